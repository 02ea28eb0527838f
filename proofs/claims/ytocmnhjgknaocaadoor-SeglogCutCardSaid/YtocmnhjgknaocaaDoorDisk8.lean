import Derived.Test.YtocmnhjgknaocaaDoorDisk7
import Derived.Maps.RangeWalk
import Derived.LaidEqlPtr
set_option linter.unusedVariables false
set_option linter.unusedSimpArgs false
set_option maxRecDepth 100000
namespace Go.Proofs.YtocmnhjgknaocaaDoor
open Go.RowKit Tb
open Go.ChangeMaps (setBlock)

/-! ### a loop over a directory's map -/
/-- Block r is a loop over the map of block b, which holds l; what is left to come. -/
def Ranges (w : World) (b r : Nat) (l left : Dir) : Prop :=
  ∃ es clk since seen c0, w.heap[b]? = some (.map es clk) ∧ es.toList.map (fun e => (e.key, e.val)) = l.map entOf ∧ Stamps es clk ∧ w.heap[r]? = some (.mapIter (some b) since seen c0) ∧
    (∀ x ∈ es.toList, x.born < since) ∧ since ≤ c0 ∧ since ≤ clk ∧ (leftOf es seen).toList.map (fun e => (e.key, e.val)) = left.map entOf
theorem Ranges.left_eq {w : World} {b r : Nat} {l left : Dir} (h : Ranges w b r l left) : w.rangeLeft b r = left.length := by
  obtain ⟨es, clk, since, seen, c0, hb, _, _, hr, _, _, _, hl⟩ := h
  simp only [World.rangeLeft, hb, hr]
  simpa using congrArg List.length hl
theorem Ranges.lt {w : World} {b r : Nat} {l left : Dir} (h : Ranges w b r l left) : r < w.heap.size := by
  obtain ⟨es, clk, since, seen, c0, _, _, _, hr, _⟩ := h
  exact (Array.getElem?_eq_some_iff.1 hr).1
theorem Ranges.ltb {w : World} {b r : Nat} {l left : Dir} (h : Ranges w b r l left) : b < w.heap.size := by
  obtain ⟨es, clk, since, seen, c0, hb, _⟩ := h
  exact (Array.getElem?_eq_some_iff.1 hb).1
theorem Ranges.keep {w w' : World} {b r : Nat} {l left : Dir} (h : Ranges w b r l left) (hb' : w'.heap[b]? = w.heap[b]?) (hr' : w'.heap[r]? = w.heap[r]?) : Ranges w' b r l left := by
  obtain ⟨es, clk, since, seen, c0, hb, he, hs, hr, rest⟩ := h
  exact ⟨es, clk, since, seen, c0, hb'.trans hb, he, hs, hr'.trans hr, rest⟩
/-- A row of cells is no loop, and no map. -/
theorem Ranges.own_ne {w : World} {b r : Nat} {l left : Dir} (h : Ranges w b r l left) {base n size : Nat} {t : TypeId} {v : Value} {xs : List Value} (h' : w.ownsRow base t size v n xs) : some r ≠ v.ownBlock ∧ some b ≠ v.ownBlock := by
  obtain ⟨es, clk, since, seen, c0, hb, _, _, hr, _⟩ := h
  rcases h'.2 with ⟨rfl, _⟩ | ⟨g, cap, cur, rfl, _, hh, _⟩
  · exact ⟨(fun e => by cases e), (fun e => by cases e)⟩
  · refine ⟨fun e => ?_, fun e => ?_⟩
    · injection e with e
      have e : r = g := e
      subst e
      rw [hr] at hh
      cases hh
    · injection e with e
      have e : b = g := e
      subst e
      rw [hb] at hh
      cases hh
theorem entOf_inj {p q : List UInt8 × Nat} (h : entOf p = entOf q) : p = q := by
  obtain ⟨a, b⟩ := p
  obtain ⟨c, d⟩ := q
  unfold entOf strV ptrV at h
  simp at h
  rw [h.1, h.2]
/-- What is handed out is one of those left; the others stay. -/
theorem left_next {es : Array MapEntry} {seen : Array Nat} {left : Dir} {e : MapEntry} (hl : (leftOf es seen).toList.map (fun e => (e.key, e.val)) = left.map entOf) (he : e ∈ (leftOf es seen).toList) :
    ∃ (p : List UInt8 × Nat) (left' : Dir), (e.key, e.val) = entOf p ∧ p ∈ left ∧ (leftOf es (seen.push e.born)).toList.map (fun e => (e.key, e.val)) = left'.map entOf ∧ left'.length < left.length ∧ (∀ q ∈ left', q ∈ left) ∧ (((es.toList.map (·.born)).Nodup) → ∀ q ∈ left, q = p ∨ q ∈ left') := by
  have hsub : (leftOf es (seen.push e.born)).toList = (leftOf es seen).toList.filter fun x => !(x.born == e.born) := by
    unfold leftOf
    rw [Array.toList_filter, Array.toList_filter, List.filter_filter]
    congr 1
    funext x
    simp only [Array.contains_push]
    cases seen.contains x.born <;> cases h : (x.born == e.born) <;> simp [h]
  obtain ⟨j, hj, hje⟩ := List.mem_iff_getElem.1 he
  have hlen : (leftOf es seen).toList.length = left.length := by simpa using congrArg List.length hl
  have hget : ∀ k (h1 : k < (leftOf es seen).toList.length) (h2 : k < left.length), (((leftOf es seen).toList[k]).key, ((leftOf es seen).toList[k]).val) = entOf left[k] := fun k h1 h2 => by
    have := congrArg (fun x : List (Value × Value) => x[k]?) hl
    simp only [List.getElem?_map, List.getElem?_eq_getElem h1, List.getElem?_eq_getElem h2, Option.map_some, Option.some.injEq] at this
    exact this
  have key : ∀ (L : List MapEntry) (D : Dir), L.map (fun e => (e.key, e.val)) = D.map entOf → ∀ f : MapEntry → Bool, ∃ D' : Dir, (L.filter f).map (fun e => (e.key, e.val)) = D'.map entOf ∧ (∀ q ∈ D', q ∈ D) ∧ D'.length = (L.filter f).length ∧
      (∀ q ∈ D, q ∈ D' ∨ ∃ x ∈ L, f x = false ∧ (x.key, x.val) = entOf q) := by
    intro L
    induction L with
    | nil =>
      intro D h f
      have : D = [] := List.eq_nil_of_length_eq_zero (by simpa using (congrArg List.length h).symm)
      subst this
      exact ⟨[], rfl, fun q h => h, rfl, fun q h => by cases h⟩
    | cons x L ih =>
      intro D h f
      rcases D with _ | ⟨p, D⟩
      · cases h
      · rw [List.map_cons, List.map_cons] at h
        injection h with h1 h2
        obtain ⟨D', h3, h4, h5, h6⟩ := ih D h2 f
        cases hf : f x
        · refine ⟨D', by rw [List.filter_cons, hf]; exact h3, fun q hq => List.mem_cons_of_mem _ (h4 q hq), by rw [List.filter_cons, hf]; exact h5, fun q hq => ?_⟩
          rcases List.mem_cons.1 hq with rfl | hq
          · exact .inr ⟨x, List.mem_cons_self, hf, h1⟩
          · rcases h6 q hq with h | ⟨y, hy, h⟩
            · exact .inl h
            · exact .inr ⟨y, List.mem_cons_of_mem _ hy, h⟩
        · refine ⟨p :: D', by rw [List.filter_cons, hf]; simp [h1, h3], fun q hq => ?_, by rw [List.filter_cons, hf]; simp [h5], fun q hq => ?_⟩
          · rcases List.mem_cons.1 hq with rfl | hq
            · exact List.mem_cons_self
            · exact List.mem_cons_of_mem _ (h4 q hq)
          · rcases List.mem_cons.1 hq with rfl | hq
            · exact .inl List.mem_cons_self
            · rcases h6 q hq with h | ⟨y, hy, h⟩
              · exact .inl (List.mem_cons_of_mem _ h)
              · exact .inr ⟨y, List.mem_cons_of_mem _ hy, h⟩
  obtain ⟨D', h3, h4, h5, h6⟩ := key _ _ hl fun x => !(x.born == e.born)
  refine ⟨left[j]'(by omega), D', ?_, List.getElem_mem _, by rw [hsub]; exact h3, ?_, h4, fun hn q hq => ?_⟩
  · rw [← hje]
    exact hget j hj (by omega)
  · rw [h5, ← hlen]
    have hle := List.length_filter_le (fun x : MapEntry => !(x.born == e.born)) (leftOf es seen).toList
    rcases Nat.lt_or_eq_of_le hle with h | h
    · exact h
    · exfalso
      have := List.length_filter_eq_length_iff.1 h e he
      simp at this
  · rcases h6 q hq with h | ⟨x, hx, hf, hk⟩
    · exact .inr h
    · refine .inl (entOf_inj ?_)
      rw [← hk, ← hget j hj (by omega)]
      have hb : x.born = e.born := by simpa using hf
      have hx2 : x ∈ es.toList := (Array.toList_filter ▸ hx : x ∈ es.toList.filter _) |> List.mem_filter.1 |>.1
      have he2 : e ∈ es.toList := (Array.toList_filter ▸ he : e ∈ es.toList.filter _) |> List.mem_filter.1 |>.1
      have := born_inj hn hx2 he2 hb
      rw [this, hje]

/-- p comes out of those left; left' are left then. -/
def NextOf (p : List UInt8 × Nat) (left left' : Dir) : Prop := p ∈ left ∧ left'.length < left.length ∧ (∀ q ∈ left', q ∈ left) ∧ (∀ q ∈ left, q = p ∨ q ∈ left')
section
variable {ops : Array Oper} {rest : List Oper} {o : Oper} {a : Act} {Q : Exit → Act → World → Prop}
theorem wpList_range_dir {w : World} {b : Nat} {l : Dir} (hg : o.guard = none) (m : Operand) (hop : o.op = Op.range 108 m) (hm : a.eval m = .map (some b)) (h : MapIs w b l)
    (hK : ∀ w', Ranges w' b w.heap.size l l → Below w.heap.size w w' → w'.heap.size = w.heap.size + 1 → wpList Tryd.prog ops Q rest (a.put o.dst (.pointer (some ⟨w.heap.size, 0, none⟩))) w') : wpList Tryd.prog ops Q (o :: rest) a w := by
  have hlt := h.lt
  obtain ⟨es, clk, hb, he, hst, hko⟩ := h
  refine wpList_plain hg fun K' hK' => ?_
  unfold Oper.wp
  simp [execOp, hop, hm, run_range_map w 108 9 130 b es clk Tryd.underlying108 hb, Result.andThen]
  refine hK' _ _ (hK _ ⟨es, clk, clk, #[], clk, (Below.heap_alloc w _ b hlt).trans hb, he, hst, Go.heap_alloc_new w _, hst.1, Nat.le_refl _, Nat.le_refl _, ?_⟩ (below_alloc (Below.refl _ _) _) (by simp))
  have : leftOf es #[] = es := by unfold leftOf; simp
  rw [this]
  exact he
theorem wpList_next_dir {w : World} {b r : Nat} {l left : Dir} (hg : o.guard = none) (it : Operand) (hop : o.op = Op.next it false) (hit : a.eval it = .pointer (some ⟨r, 0, none⟩)) (h : Ranges w b r l left)
    (hDone : left = [] → wpList Tryd.prog ops Q rest (a.put o.dst (.tuple #[.bool false])) w)
    (hMore : ∀ (pn : List UInt8) (pf : Nat) (left' : Dir) (w' : World), NextOf (pn, pf) left left' → Ranges w' b r l left' → w.grownBy w' (some r) → w'.heap.size = w.heap.size →
      (Instr.entry (.pointer (some ⟨r, 0, none⟩))).run Tryd.prog w' = .ok (.tuple #[strV pn, ptrV pf]) w' → wpList Tryd.prog ops Q rest (a.put o.dst (.tuple #[.bool true, strV pn, ptrV pf])) w') : wpList Tryd.prog ops Q (o :: rest) a w := by
  refine wpList_plain hg fun K' hK' => ?_
  obtain ⟨es, clk, since, seen, c0, hb, he, hst, hr, hold, hs1, hs2, hl⟩ := h
  have hne : b ≠ r := by
    rintro rfl
    rw [hb] at hr
    cases hr
  unfold Oper.wp
  rcases run_next_at (P := Tryd.prog) w o.type r b since c0 seen es clk hr hb hold hs1 with ⟨h0, hrun⟩ | ⟨e, hel, w1, hal, hrun⟩
  · simp [execOp, hop, hit, hrun, Result.andThen]
    refine hK' _ _ (hDone ?_)
    have := congrArg List.length hl
    simp at this
    exact List.eq_nil_of_length_eq_zero (by omega)
  · obtain ⟨p, left', hp, hpm, hl2, hlt, hsub, hcov⟩ := left_next hl hel
    have hem : e ∈ es.toList := (Array.toList_filter ▸ hel : e ∈ es.toList.filter _) |> List.mem_filter.1 |>.1
    have hr1 : w1.heap[r]? = some (.mapIter (some b) since seen c0) := by rcases hal with rfl | rfl <;> exact hr
    have hb1 : w1.heap[b]? = some (.map es clk) := by rcases hal with rfl | rfl <;> exact hb
    have hrlt := (Array.getElem?_eq_some_iff.1 hr1).1
    have hset : (setBlock w1 r (.mapIter (some b) since (seen.push e.born) clk)).heap[r]? = some (.mapIter (some b) since (seen.push e.born) clk) := by simp [setBlock, hrlt]
    have hb' : (setBlock w1 r (.mapIter (some b) since (seen.push e.born) clk)).heap[b]? = some (.map es clk) := (setBlock_ne hne).trans hb1
    simp [execOp, hop, hit, hrun, Result.andThen]
    have hkv : e.key = strV p.1 ∧ e.val = ptrV p.2 := ⟨congrArg Prod.fst hp, congrArg Prod.snd hp⟩
    rw [hkv.1, hkv.2]
    refine hK' _ _ (hMore p.1 p.2 left' _ ⟨hpm, hlt, hsub, hcov hst.2⟩ ⟨es, clk, since, seen.push e.born, clk, hb', he, hst, hset, hold, hs2, hs2, hl2⟩ ?_ ?_ ?_)
    · rcases hal with rfl | rfl <;> exact ⟨rfl, rfl, rfl, by simp [setBlock], fun i _ hi => setBlock_ne (fun e1 => hi (by rw [e1]))⟩
    · rcases hal with rfl | rfl <;> simp [setBlock]
    · rw [← hkv.1, ← hkv.2]
      exact run_entry_at _ r b since seen es clk e hset hb' hem hst.2
end

/-! ### slices.Contains -/
def elPtr : El Nat := elOne ptrV
def IdxPost (w : World) (q : Bool) (e : Ending) (w' : World) : Prop := ∃ j : Int, e = .returned (.int .i64 j) ∧ decide (0 ≤ j) = q ∧ w = w'
theorem infoFile : ∃ j, Tryd.prog.info? 129 = some j ∧ j.size ≠ 0 := by
  have h : (Tryd.prog.info? 129).map (fun i => decide (i.size ≠ 0)) = some true := by kernel_rfl
  obtain ⟨j, hj, h2⟩ := Option.map_eq_some_iff.1 h
  exact ⟨j, hj, by simpa using h2⟩
theorem run_eql_file {w : World} {a b : Nat} {ca cb : List Value} (ha : Blk w a ca 129) (hb : Blk w b cb 129) : (binOp .eql 130 (.pointer (some ⟨a, 0, none⟩)) (.pointer (some ⟨b, 0, none⟩))).run Tryd.prog w = .ok (.bool (decide (a = b))) w := by
  obtain ⟨j, hj, hj0⟩ := infoFile
  by_cases h : a = b
  · subst h
    rw [decide_eq_true rfl]
    exact run_eql_ptr_same w _ Tryd.underlying130 hj
  · rw [decide_eq_false h]
    exact run_eql_ptr_other w Tryd.underlying130 hj hj0 (fun e => h (by injection e)) ha hb

set_option maxHeartbeats 1600000 in
theorem index_file_any (v : Value) (sl : List Nat) (f : Nat) (ok : Nat → Prop) (w : World) (hv : Sl elPtr w ok v sl) (hB : ∀ i, i ∈ f :: sl → ∃ cs, Blk w i cs 129) :
    Calls Tryd.prog 101 #[v, .pointer (some ⟨f, 0, none⟩)] w (IdxPost w (decide (f ∈ sl))) := by
  obtain ⟨A, c, rfl, hc1, hc2, hc⟩ := hv.one
  have HB := Lib.hid hB
  clear hv hB
  go_enter Tryd.func101, Tryd.ntmps101
  go_wp2_with fail
  go_loop [8] (fun i => ∃ k : Nat, k ≤ sl.length ∧ i = .int .i64 k ∧ f ∉ sl.take k) (fun i => sl.length - (intOf i).toNat)
  case atStart => exact ⟨0, by omega, rfl, by simp⟩
  case round =>
    obtain ⟨k, hk, rfl, hno⟩ := hrel
    by_cases hlt : k < sl.length
    · obtain ⟨b, o, rfl, hob, hcell⟩ := hc (by omega)
      have hck0 := hcell k hlt
      obtain ⟨ca, ha⟩ := HB.out f (by simp)
      obtain ⟨cb, hb⟩ := HB.out sl[k] (List.mem_cons_of_mem _ (List.getElem_mem _))
      have heq := run_eql_file ha hb
      have HY : Hid (f = sl[k] → f ∈ sl) := fun e => by rw [e]; exact List.getElem_mem _
      have HX : Hid (f ≠ sl[k] → f ∉ sl.take (k + 1)) := fun e => by
        rw [List.take_succ_eq_append_getElem hlt, List.mem_append, List.mem_singleton]
        rintro (h | h)
        · exact hno h
        · exact e h
      clear hcell hno ha hb
      generalize sl[k] = x at hck0 heq HX HY
      have hck : w.cell? ⟨b, o + k, none⟩ = some (.pointer (some ⟨x, 0, none⟩)) := hck0
      clear hck0
      by_cases hfx : f = x
      · rw [decide_eq_true hfx] at heq
        have HF := Lib.hid hfx
        clear hfx
        go_wp2_with fail
        go_ret
        exact ⟨_, rfl, by rw [decide_eq_true (HY.out HF.out)]; simp, rfl⟩
      · rw [decide_eq_false hfx] at heq
        have HF := Lib.hid hfx
        clear hfx
        go_wp2_with fail
        go_round
        case rel => exact ⟨k + 1, by omega, by go_num, HX.out HF.out⟩
        case measure => simp [intOf]; omega
    · have HN : Hid (f ∉ sl) := by
        unfold Hid
        rw [List.take_of_length_le (by omega)] at hno
        exact hno
      clear hno
      obtain rfl : k = sl.length := by omega
      go_wp2_with fail
      go_ret
      exact ⟨_, rfl, by rw [decide_eq_false HN.out]; rfl, rfl⟩
set_option maxHeartbeats 800000 in
theorem contains_file_any (v : Value) (sl : List Nat) (f : Nat) (ok : Nat → Prop) (w : World) (hv : Sl elPtr w ok v sl) (hB : ∀ i, i ∈ f :: sl → ∃ cs, Blk w i cs 129) :
    Calls Tryd.prog 87 #[v, .pointer (some ⟨f, 0, none⟩)] w (Ret (.bool (decide (f ∈ sl))) w) := by
  have HI := Lib.hid (index_file_any v sl f ok w hv hB)
  clear hv hB
  rcases hq : decide (f ∈ sl) with _ | _
  · rw [hq] at HI
    go_enter Tryd.func87, Tryd.ntmps87
    go_wp2_with (go_at_call 101; refine HI.out.mono ?_; rintro e w1 ⟨j, rfl, hj, rfl⟩)
    go_ret
    exact ⟨rfl, rfl⟩
  · rw [hq] at HI
    go_enter Tryd.func87, Tryd.ntmps87
    go_wp2_with (go_at_call 101; refine HI.out.mono ?_; rintro e w1 ⟨j, rfl, hj, rfl⟩)
    go_ret
    exact ⟨rfl, rfl⟩

end Go.Proofs.YtocmnhjgknaocaaDoor
