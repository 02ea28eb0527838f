import Derived.Test.YtocmnhjgknaocaaDoorAwake15b
import Derived.ArgAppend
import Derived.Test.YtocmnhjgknaocaaDoorReg
set_option linter.unusedVariables false
set_option linter.unusedSimpArgs false
namespace Go.Proofs.YtocmnhjgknaocaaDoor
open Go.RowKit Tb

/-! ### a log that is opened at a place: plain laws -/
theorem mem_le_sum : ∀ (l : List Nat) (k : Nat) (h : k < l.length), l[k] ≤ l.sum
  | [], k, h => by simp at h
  | x :: l, 0, h => by simp
  | x :: l, k + 1, h => by
    have := mem_le_sum l k (by simpa using h)
    simp only [List.getElem_cons_succ, List.sum_cons]
    omega
theorem LState.seg_le {s : PDisk} {g : PLog} {seg0 n : Nat} {size : Int} {ps : List Place} {T : Nat} (h : LState s g seg0 n size ps T) {j : Nat} (hj : j < n) : (flat (recsIn ps (seg0 + j))).length ≤ T := by
  have hl := segBytes_len seg0 n ps
  have h1 := mem_le_sum ((segBytes seg0 n ps).map List.length) j (by rw [List.length_map]; omega)
  rw [List.getElem_map, segBytes_get] at h1
  exact Nat.le_trans h1 h.tot
theorem recsIn_split (ps : List Place) (i q : Nat) : recsIn ps q = recsIn (ps.take i) q ++ recsIn (ps.drop i) q := by
  rw [← recsIn_append, List.take_append_drop]
theorem LState.at_le {s : PDisk} {g : PLog} {seg0 n : Nat} {size : Int} {ps : List Place} {T : Nat} (h : LState s g seg0 n size ps T) {i : Nat} (hi : i < ps.length) : (ps[i]).at_ ≤ T := by
  obtain ⟨_, h1, h2⟩ := h.ok ps[i] (List.getElem_mem _)
  have h3 := h.seg_le (j := (ps[i]).seg - seg0) (by omega)
  rw [show seg0 + ((ps[i]).seg - seg0) = (ps[i]).seg from by omega, recsIn_split ps i, flat_append, List.length_append] at h3
  rw [h.laid i hi]
  omega
theorem recsIn_ne {ps : List Place} {q : Nat} (h : ∀ p ∈ ps, p.seg ≠ q) : recsIn ps q = [] := by
  unfold recsIn
  rw [List.filter_eq_nil_iff.2]
  · rfl
  · intro p hp
    simpa using h p hp
theorem cut_steps (s : PDisk) (n : List UInt8) (k : Int) : (s.cut n k).2.steps = s.steps := by
  unfold PDisk.cut
  split
  · split
    · exact can_steps _ _
    · exact can_steps _ _
  · exact can_steps _ _
theorem LState.open {s : PDisk} {g : PLog} {seg0 n : Nat} {size : Int} {ps : List Place} {T : Nat} (h : LState s g seg0 n size ps T) (hm : madeOk seg0 size = true) (hn : 0 < n) {cut : Nat} (hc : cut < ps.length) (hlast : ∀ p, ps.getLast? = some p → p.seg = g.seg)
    (hall : ∀ i (hi : i < ps.length), cut ≤ i → (ps[i]).seg = (ps[cut]).seg) :
    ∃ s', logOpen s (ps[cut]).seg (ps[cut]).at_ size = (.ok ⟨(ps[cut]).seg, (ps[cut]).at_, size, (ps[cut]).seg + 1, false⟩, s') ∧ LState s' ⟨(ps[cut]).seg, (ps[cut]).at_, size, (ps[cut]).seg + 1, false⟩ seg0 n size (ps.take cut) T ∧ s'.steps = s.steps ∧
      logAt s' (ps[cut]).seg (ps[cut]).at_ = .error 3 := by
  have hgs := h.gseg
  have hsm := h.small
  have hmany := h.many
  have hL := segBytes_len seg0 n ps
  have hxseg : (ps[cut]).seg = seg0 + (n - 1) := by
    have h1 := hall (ps.length - 1) (by omega) (by omega)
    have h2 := hlast ps[ps.length - 1] (by rw [List.getLast?_eq_getElem?, List.getElem?_eq_getElem])
    omega
  have hj : n - 1 < (segBytes seg0 n ps).length := by omega
  have hat := h.laid cut hc
  have hb : (segBytes seg0 n ps)[n - 1] = flat (recsIn ps (ps[cut]).seg) := by rw [segBytes_get, hxseg]
  have hdrop : recsIn (ps.drop cut) (ps[cut]).seg = (ps[cut]).r :: recsIn (ps.drop (cut + 1)) (ps[cut]).seg := by
    rw [List.drop_eq_getElem_cons hc, ← List.singleton_append, recsIn_append]
    simp [recsIn]
  have hflat : flat (recsIn ps (ps[cut]).seg) = flat (recsIn (ps.take cut) (ps[cut]).seg) ++ (rawOf (ps[cut]).r ++ flat (recsIn (ps.drop (cut + 1)) (ps[cut]).seg)) := by
    rw [recsIn_split ps cut, flat_append, hdrop, flat_cons]
  have hraw := raw_le (h.ok ps[cut] (List.getElem_mem _)).1
  have hlen : (ps[cut]).at_ < (flat (recsIn ps (ps[cut]).seg)).length := by
    rw [hflat, List.length_append, List.length_append]
    omega
  have hrd := h.segs.read hj
  rw [hb, ← hxseg] at hrd
  have hct := h.segs.cut hj (ps[cut]).at_ (by rw [hb]; omega)
  rw [← hxseg] at hct
  have hm2 : madeOk (ps[cut]).seg size = true := by
    unfold madeOk at *
    simp at hm ⊢
    omega
  have hop : logOpen s (ps[cut]).seg (ps[cut]).at_ size = (.ok ⟨(ps[cut]).seg, (ps[cut]).at_, size, (ps[cut]).seg + 1, false⟩, (s.cut (segName (ps[cut]).seg) (ps[cut]).at_).2) := by
    unfold logOpen
    rw [if_pos hm2, hrd]
    simp only
    rw [if_neg (by omega), if_pos hlen, if_pos hct.1]
  have htake : (flat (recsIn ps (ps[cut]).seg)).take (ps[cut]).at_ = flat (recsIn (ps.take cut) (ps[cut]).seg) := by
    rw [hflat, hat, List.take_left]
  have hbt : (segBytes seg0 n ps)[n - 1].take (ps[cut]).at_ = flat (recsIn (ps.take cut) (ps[cut]).seg) := by rw [hb, htake]
  have hset : (segBytes seg0 n ps).set (n - 1) ((segBytes seg0 n ps)[n - 1].take (ps[cut]).at_) = segBytes seg0 n (ps.take cut) := by
    rw [hbt]
    apply List.ext_getElem
    · rw [List.length_set, segBytes_len, segBytes_len]
    · intro k h1 h2
      rw [segBytes_get, List.getElem_set]
      by_cases e : n - 1 = k
      · subst e
        rw [if_pos rfl, hxseg]
      · rw [if_neg e, segBytes_get, recsIn_split ps cut, recsIn_ne (ps := ps.drop cut), List.append_nil]
        intro p hp
        obtain ⟨i, hi, rfl⟩ := List.mem_iff_getElem.1 hp
        rw [List.getElem_drop]
        rw [List.length_drop] at hi
        rw [hall (cut + i) (by omega) (by omega), hxseg]
        omega
  have hsegs := hct.2
  rw [hset] at hsegs
  have hmem : ∀ p ∈ ps.take cut, p ∈ ps := fun p hp => List.mem_of_mem_take hp
  refine ⟨_, hop, ?_, cut_steps _ _ _, ?_⟩
  · exact {
      segs := hsegs
      gseg := by show (ps[cut]).seg + 1 = _; omega
      gmost := rfl
      gat := hat
      ok := fun p hp => h.ok p (hmem p hp)
      laid := fun i hi => by
        have hi2 : i < cut := by rw [List.length_take] at hi; omega
        rw [List.getElem_take, List.take_take, show min i cut = i from by omega]
        exact h.laid i (by omega)
      tot := by
        have := sum_set (segBytes seg0 n ps) (n - 1) ((segBytes seg0 n ps)[n - 1].take (ps[cut]).at_) hj
        rw [hset, List.length_take] at this
        have := h.tot
        omega
      small := hsm
      many := hmany
      long := by rw [cut_steps]; exact h.long }
  · have hl2 := segBytes_len seg0 n (ps.take cut)
    have hrd2 := hsegs.read (j := n - 1) (by omega)
    rw [segBytes_get, ← hxseg] at hrd2
    unfold logAt
    rw [if_pos (by omega), hrd2]
    simp only
    unfold logRec
    rw [if_neg (by omega), List.drop_eq_nil_of_le (by omega), recAll_nil]
    rfl

end Go.Proofs.YtocmnhjgknaocaaDoor

set_option linter.unusedVariables false
set_option linter.unusedSimpArgs false
set_option maxRecDepth 100000
namespace Go.Proofs.YtocmnhjgknaocaaDoor
open Go.RowKit Tb

theorem LState.hp {s : PDisk} {g : PLog} {seg0 n : Nat} {size : Int} {ps : List Place} {T : Nat} (h : LState s g seg0 n size ps T) (hT : T ≤ 131072) :
    ∀ i (h : i < ps.length), logAt s (ps[i]).seg (ps[i]).at_ = .ok ((ps[i]).r, (rawOf (ps[i]).r).length) ∧ OkRec (ps[i]).r ∧ (ps[i]).seg < 18446744073709551616 ∧ (ps[i]).at_ < 18446744073709551616 := by
  intro i hi
  have h1 := h.at_le hi
  have h2 := h.ok ps[i] (List.getElem_mem _)
  have h3 := h.small
  have h4 := h.many
  exact ⟨h.at hi, h2.1, by omega, by omega⟩

theorem Sl.takeE {α : Type} {k : El α} {w : World} {ok : Nat → Prop} {A : Option Addr} {n c : Nat} {xs : List α} (h : Sl k w ok (.slice A n c) xs) (m : Nat) (hm : m ≤ xs.length) : Sl k w ok (.slice A m c) (xs.take m) := by
  obtain ⟨A', c', hv, h1, h2, h3⟩ := h
  injection hv with hA hn hc
  subst hA
  subst hc
  have hl : (xs.take m).length = m := by rw [List.length_take]; omega
  refine ⟨A, c, by rw [hl], by omega, h2, fun hp => ?_⟩
  obtain ⟨b, o, rfl, hb, hcs⟩ := h3 (by omega)
  refine ⟨b, o, rfl, hb, fun j hj => ?_⟩
  rw [List.getElem_take]
  exact hcs j (by omega)

/-! ### append(v, x), v being read and full: a new row -/
theorem wp_app_grow {P : Program} {o : Oper} {a : Act} {Q : Exit → Act → World → Prop} {K : Act → World → Prop} {W : World} (s x : Operand) (t e : TypeId) (z : Value) (size bytes : Nat)
    (ho : o.op = .call { callee := .builtin .append, args := #[s, x], argTypes := #[t, t] })
    (ht : P.underlying t = some (.slice e)) (hinfo : (P.info? e).map (fun i => (i.zero, i.size, i.bytes)) = some (some z, size, bytes)) (hz : z.cells.size = size) (hs0 : 0 < size)
    (b off n : Nat) (olds news : List Value) (hs : a.eval s = .slice (some ⟨b, off, none⟩) n n) (hx : a.eval x = .slice (some ⟨W.heap.size, 0, none⟩) 1 1) (hol : olds.length = n * size) (hnl : news.length = size)
    (holds : ∀ j u, olds[j]? = some u → W.cell? ⟨b, off + j, none⟩ = some u) (hb : b < W.heap.size) (hl : n + 1 ≤ maxLen) (hl2 : (n + 1) * bytes ≤ 140737488355328)
    (h : ∀ v1 w1, w1.ownsRow W.heap.size e size v1 (n + 1) (olds ++ news) → W.grownBy w1 none → K (a.put o.dst v1) w1) :
    o.wp P a (W.alloc (.cells news.toArray e)) K Q := by
  obtain ⟨i0, hi, hzz⟩ := Option.map_eq_some_iff.1 hinfo
  simp only [Prod.mk.injEq] at hzz
  obtain ⟨hz0, hz1, hz2⟩ := hzz
  have hcell : ∀ j u, news[j]? = some u → (W.alloc (.cells news.toArray e)).cell? ((⟨W.heap.size, 0, none⟩ : Addr).add j) = some u := by
    intro j u hu
    have hadd : (⟨W.heap.size, 0, none⟩ : Addr).add j = ⟨W.heap.size, j, none⟩ := by unfold Addr.add; split <;> simp_all
    rw [hadd, (Blk.new W news e).cell j, hu]
  have hold : ∀ j u, olds[j]? = some u → (W.alloc (.cells news.toArray e)).cell? ((⟨b, off, none⟩ : Addr).add j) = some u := by
    intro j u hu
    have hadd : (⟨b, off, none⟩ : Addr).add j = ⟨b, off + j, none⟩ := by unfold Addr.add; split <;> simp_all
    rw [hadd]
    exact cell_below (below_alloc (Below.refl _ _) _) (holds j u hu)
  obtain ⟨v1, w1, hr, hown, hg⟩ := run_append_arg_grows (P := P) (W.alloc (.cells news.toArray e)) t o.type e i0 z size bytes ht hi hz0 hz1 hz2 hz hs0 ⟨b, off, none⟩ n n olds hol hold ⟨W.heap.size, 0, none⟩ 1 1 news (by omega) hcell (by omega) hl hl2
  unfold Oper.wp execOp
  simp only [ho, resolve, invoke, builtin, Sem.run_bind, Sem.run_pure, Result.andThen_ok, List.map_toArray, List.map_cons, List.map_nil, hs, hx, hr]
  refine h v1 w1 ?_ ?_
  · refine ⟨hown.1, ?_⟩
    rcases hown.2 with h2 | ⟨g, cap, cur, hv, hg2, r⟩
    · exact .inl h2
    · exact .inr ⟨g, cap, cur, hv, Nat.le_trans (by simp) hg2, r⟩
  · exact ⟨hg.os, hg.tape, hg.output, Nat.le_trans (by simp) hg.size, fun k hk hne => (hg.block k (by simp; omega) (by simp)).trans (Below.heap_alloc W _ k hk)⟩

/-- What is read, cell by cell. -/
theorem place_cells {w : World} {ok : Nat → Prop} {b o n c : Nat} {ps : List Place} (h : Sl elPlace w ok (.slice (some ⟨b, o, none⟩) n c) ps) :
    ∃ css : List (List Value), css.length = ps.length ∧ (∀ j (h : j < ps.length) (h2 : j < css.length), elPlace.R w ok ps[j] css[j]) ∧ css.flatten.length = ps.length * 5 ∧ ∀ j u, css.flatten[j]? = some u → w.cell? ⟨b, o + j, none⟩ = some u := by
  obtain ⟨A', c', hv, h1, h2, h3⟩ := h
  injection hv with hA hn hc
  subst hA
  have hf : ∀ j (hj : j < ps.length), elPlace.R w ok ps[j] ((List.range 5).map fun i => (w.cell? ⟨b, o + j * 5 + i, none⟩).getD undef) ∧ ∀ i, i < 5 → ((List.range 5).map fun i => (w.cell? ⟨b, o + j * 5 + i, none⟩).getD undef)[i]? = w.cell? ⟨b, o + j * 5 + i, none⟩ := by
    intro j hj
    obtain ⟨b', o', hb, _, hcs⟩ := h3 (by omega)
    injection hb with hb
    injection hb with hb1 hb2
    subst hb1
    subst hb2
    obtain ⟨cs, hR, hcell⟩ := hcs j hj
    have hl : cs.length = 5 := elPlace.len hR
    have he : ((List.range 5).map fun i => (w.cell? ⟨b, o + j * 5 + i, none⟩).getD undef) = cs := by
      apply List.ext_getElem
      · simp [hl]
      · intro i h4 h5
        have := hcell i (by show i < 5; omega)
        have h6 : w.cell? ⟨b, o + j * 5 + i, none⟩ = cs[i]? := this
        rw [List.getElem_map, List.getElem_range, h6, List.getElem?_eq_getElem h5]
        rfl
    rw [he]
    exact ⟨hR, fun i hi => (hcell i hi).symm⟩
  have hlen : ∀ cs ∈ (List.range ps.length).map (fun j => (List.range 5).map fun i => (w.cell? ⟨b, o + j * 5 + i, none⟩).getD undef), cs.length = 5 := by
    intro cs hcs
    obtain ⟨j, _, rfl⟩ := List.mem_map.1 hcs
    simp
  refine ⟨(List.range ps.length).map fun j => (List.range 5).map fun i => (w.cell? ⟨b, o + j * 5 + i, none⟩).getD undef, by simp, fun j hj hj2 => ?_, ?_, fun j u hu => ?_⟩
  · rw [List.getElem_map, List.getElem_range]
    exact (hf j hj).1
  · rw [flatten_len _ 5 hlen]
    simp
  · have hjl := (List.getElem?_eq_some_iff.1 hu).1
    rw [flatten_len _ 5 hlen, List.length_map, List.length_range] at hjl
    have hq : j / 5 < ps.length := by omega
    have hfl := flatten_get _ 5 hlen (j / 5) (by simpa using hq) (j % 5) (by omega)
    rw [show j / 5 * 5 + j % 5 = j by omega, hu, List.getElem_map, List.getElem_range, (hf (j / 5) hq).2 (j % 5) (by omega), show o + j / 5 * 5 + j % 5 = o + j by omega] at hfl
    exact hfl.symm
theorem grown_places {W w1 : World} {ok : Nat → Prop} {v1 : Value} {ps : List Place} {css : List (List Value)} {p : Place} {news : List Value} (hl : css.length = ps.length) (hR : ∀ j (h : j < ps.length) (h2 : j < css.length), elPlace.R W ok ps[j] css[j]) (hx : elPlace.R W ok p news)
    (hown : w1.ownsRow W.heap.size 37 5 v1 (ps.length + 1) (css.flatten ++ news)) (hg : W.grownBy w1 none) : Sl elPlace w1 (fun _ => True) v1 (ps ++ [p]) := by
  have hkeep : ∀ {y : Place} {cs : List Value}, elPlace.R W ok y cs → elPlace.R w1 (fun b => some b ≠ v1.ownBlock ∧ True) y cs := by
    intro y cs h
    have h2 := elPlace.weak h (ok' := fun b => b < W.heap.size) fun b _ hlt => hlt
    exact elPlace.weak (elPlace.keep h2 (fun b hb hlt => hg.block b hlt (by simp))) fun b hb _ => ⟨fun e => by have := (hown.lt b e.symm).1; omega, trivial⟩
  have ho : OwnE w1 W.heap.size (fun _ => True) v1 (ps ++ [p]) := by
    refine ⟨css ++ [news], by simp [hl], ?_, by simpa using hown⟩
    intro j h h2
    by_cases hj : j < ps.length
    · rw [List.getElem_append_left hj, List.getElem_append_left (by omega)]
      exact hkeep (hR j hj (by omega))
    · have hj2 : j = ps.length := by simp at h; omega
      subst hj2
      have e1 : (ps ++ [p])[ps.length] = p := by simp
      have e2 : (css ++ [news])[ps.length] = news := by simp [← hl]
      rw [e1, e2]
      exact hkeep hx
  exact ho.sl fun _ _ => trivial

end Go.Proofs.YtocmnhjgknaocaaDoor
