import Derived.Test.YtocmnhjgknaocaaDoorLogThm
set_option linter.unusedVariables false
set_option linter.unusedSimpArgs false
set_option maxRecDepth 100000
namespace Go.Proofs.YtocmnhjgknaocaaDoor
open Go.RowKit Tb
open Go.ChangeMaps (setBlock)

def elPlace : El Place where
  sz := 5
  R := fun w ok p cs => ∃ u, cs = [.int .i64 p.r.kind, u, .string ⟨p.r.text.toArray⟩, .int .u64 p.seg, .int .u64 p.at_] ∧ Sl elU64 w ok u p.r.n
  len := fun ⟨u, h, _⟩ => by rw [h]; rfl
  keep := fun ⟨u, h, hv⟩ hk => ⟨u, h, hv.keep hk Nat.one_pos⟩
  weak := fun ⟨u, h, hv⟩ hk => ⟨u, h, hv.weak hk Nat.one_pos⟩
theorem place_at {w : World} {ok : Nat → Prop} {v : Value} {ps : List Place} (h : Sl elPlace w ok v ps) {k : Nat} (hk : k < ps.length) :
    ∃ b o c A c2, v = .slice (some ⟨b, o, none⟩) ps.length c ∧ ps.length ≤ c ∧ c ≤ 9223372036854775807 ∧ w.cell? ⟨b, o + k * 5, none⟩ = some (.int .i64 (ps[k]).r.kind) ∧ w.cell? ⟨b, o + k * 5 + 1, none⟩ = some (.slice A (ps[k]).r.n.length c2) ∧
      w.cell? ⟨b, o + k * 5 + 2, none⟩ = some (.string ⟨(ps[k]).r.text.toArray⟩) ∧ w.cell? ⟨b, o + k * 5 + 3, none⟩ = some (.int .u64 (ps[k]).seg) ∧ w.cell? ⟨b, o + k * 5 + 4, none⟩ = some (.int .u64 (ps[k]).at_) ∧
      Sl elU64 w ok (.slice A (ps[k]).r.n.length c2) (ps[k]).r.n := by
  obtain ⟨A, c, rfl, h1, h2, h3⟩ := h
  obtain ⟨b, o, rfl, _, hc⟩ := h3 (by omega)
  obtain ⟨cs, ⟨u, rfl, hu⟩, hcs⟩ := hc k hk
  obtain ⟨A2, c2, rfl, _, _, _⟩ := hu.one
  exact ⟨b, o, c, A2, c2, rfl, h1, h2, hcs 0 (by decide), hcs 1 (by decide), hcs 2 (by decide), hcs 3 (by decide), hcs 4 (by decide), hu⟩

/-! ### Large -/
def recLarge (r : Rec) : Bool := decide (100 < r.n.length) || decide (300 < r.text.length)
set_option maxHeartbeats 800000 in
theorem large05_any (r : Rec) (u : Value) (ok : Nat → Prop) (w : World) (hv : Sl elU64 w ok u r.n) : Calls Tryd.prog 11 #[.agg #[.int .i64 r.kind, u, .string ⟨r.text.toArray⟩]] w (RetB w fun v _ => v = .bool (recLarge r)) := by
  obtain ⟨A, c, rfl, hc1, hc2, hx⟩ := hv.one
  clear hx hv
  by_cases h1 : 100 < r.n.length
  · have hd1 : decide ((100 : Int) < (r.n.length : Int)) = true := by simp; omega
    have hq : recLarge r = true := by unfold recLarge; rw [decide_eq_true h1]; rfl
    rw [hq]
    clear hq
    go_enter Tryd.func11, Tryd.ntmps11
    go_wp2_with fail
    go_ret
    exact ⟨_, rfl, below_alloc (Below.refl _ _) _, rfl⟩
  · have hd1 : decide ((100 : Int) < (r.n.length : Int)) = false := by simp; omega
    by_cases h2 : 300 < r.text.length
    · have hd2 : decide ((300 : Int) < (r.text.length : Int)) = true := by simp; omega
      have hq : recLarge r = true := by unfold recLarge; rw [decide_eq_true h2]; simp
      rw [hq]
      clear hq
      go_enter Tryd.func11, Tryd.ntmps11
      go_wp2_with fail
      go_ret
      exact ⟨_, rfl, below_alloc (Below.refl _ _) _, rfl⟩
    · have hd2 : decide ((300 : Int) < (r.text.length : Int)) = false := by simp; omega
      have hq : recLarge r = false := by unfold recLarge; rw [decide_eq_false h1, decide_eq_false h2]; rfl
      rw [hq]
      clear hq
      go_enter Tryd.func11, Tryd.ntmps11
      go_wp2_with fail
      go_ret
      exact ⟨_, rfl, below_alloc (Below.refl _ _) _, rfl⟩

/-! ### there -/
set_option maxHeartbeats 3200000 in
theorem there15_any {F : Nat → Prop} {w : World} {D L : Nat} {s : PDisk} {g : PLog} (hD : DiskIn F w D s) (hLg : LogAt w L D g) (ht : Tab w) (v : Value) (ps : List Place) (ok : Nat → Prop) (hv : Sl elPlace w ok v ps) (hl : ps.length ≤ 1000000)
    (hp : ∀ i (h : i < ps.length), logAt s (ps[i]).seg (ps[i]).at_ = .ok ((ps[i]).r, (rawOf (ps[i]).r).length) ∧ OkRec (ps[i]).r ∧ (ps[i]).seg < 18446744073709551616 ∧ (ps[i]).at_ < 18446744073709551616) :
    Calls Tryd.prog 14 #[ptrV L, v] w (RetB w fun v _ => v = .bool true) := by
  obtain ⟨A, c, hve, hc1, hc2, hx⟩ := hv
  have HV : Hid (Sl elPlace w ok (.slice A ps.length c) ps) := ⟨A, c, rfl, hc1, hc2, hx⟩
  subst hve
  have HD := Lib.hid hD
  have HLG := Lib.hid hLg
  have HT := Lib.hid ht
  have HP := Lib.hid hp
  clear hD hLg ht hp hx
  unfold ptrV
  go_enter Tryd.func14, Tryd.ntmps14
  go_wp2_with fail
  go_loopw [14] (fun i wr => ∃ k : Nat, k ≤ ps.length ∧ i = .int .i64 k ∧ Below w.heap.size w wr) (fun i _ => ps.length - (intOf i).toNat)
  case atStart => exact ⟨0, by omega, rfl, Below.refl _ _⟩
  case round =>
    obtain ⟨k, hk, rfl, hbel⟩ := hrel
    have HBEL := Lib.hid hbel
    clear hbel
    by_cases hlt : k < ps.length
    · obtain ⟨b, o, c3, A2, c2, hve, hc31, hc32, q0, q1, q2, q3, q4, hu⟩ := place_at (HV.out.below HBEL.out (by decide)) hlt
      injection hve with hA hln hcc
      subst hA
      subst hcc
      clear hln
      obtain ⟨h1, h2, h3, h4⟩ := HP.out k hlt
      generalize ps[k] = p at q0 q1 q2 q3 q4 hu h1 h2 h3 h4
      obtain ⟨⟨kind, nums, text⟩, sg, at_⟩ := p
      simp only at q0 q1 q2 q3 q4 hu h1 h2 h3 h4
      have HU := Lib.hid hu
      have H1 := Lib.hid h1
      have H2 := Lib.hid h2
      have hi1 : (k : Int) < (ps.length : Int) := by omega
      clear hu h1 h2
      go_wp2_with fail
      have HW1 : Hid (Below wr.heap.size wr (wr.alloc (.cells #[.int .i64 kind, .slice A2 nums.length c2, .string ⟨text.toArray⟩, .int .u64 sg, .int .u64 at_] 37))) := below_alloc (Below.refl _ _) _
      have HB1 := Lib.hid (below_step HBEL.out HW1.out)
      have HBP : Hid (Blk (wr.alloc (.cells #[.int .i64 kind, .slice A2 nums.length c2, .string ⟨text.toArray⟩, .int .u64 sg, .int .u64 at_] 37)) wr.heap.size [.int .i64 kind, .slice A2 nums.length c2, .string ⟨text.toArray⟩, .int .u64 sg, .int .u64 at_] 37) := Blk.new wr _ _
      have hr := logRead_any (HD.out.below HB1.out) (HLG.out.below HB1.out) (HT.out.below HB1.out) sg at_ h3 h4
      rw [H1.out] at hr
      refine hr.mono ?_
      clear hr
      rintro e w2 ⟨v2, rfl, hb2, u2, rfl, hs2⟩
      obtain ⟨Ar, cr, hur, hcr1, hcr2, hxr⟩ := hs2.one
      subst hur
      have hP2 := HBP.out.belowS hb2
      have p0 := hP2.at 0 _ rfl
      have p1 := hP2.at 1 _ rfl
      have p2 := hP2.at 2 _ rfl
      have p3 := hP2.at 3 _ rfl
      have p4 := hP2.at 4 _ rfl
      have hltp := hP2.lt
      have t0 : ∀ o : Obj, (w2.alloc o).cell? ⟨wr.heap.size, 0, none⟩ = some (.int .i64 kind) := fun o => (hP2.alloc o).at 0 _ rfl
      have t1 : ∀ o : Obj, (w2.alloc o).cell? ⟨wr.heap.size, 1, none⟩ = some (.slice A2 nums.length c2) := fun o => (hP2.alloc o).at 1 _ rfl
      have t2 : ∀ o : Obj, (w2.alloc o).cell? ⟨wr.heap.size, 2, none⟩ = some (.string ⟨text.toArray⟩) := fun o => (hP2.alloc o).at 2 _ rfl
      have HP2 := Lib.hid hP2
      have HB2 := Lib.hid hb2
      have HS2 := Lib.hid hs2
      clear hb2 hs2 hxr hP2 q0 q1 q2 q3 q4 hltp
      go_wp2_with fail
      have HW3 : Hid (Below w2.heap.size w2 (w2.alloc (.cells #[.int .i64 kind, .slice Ar nums.length cr, .string ⟨text.toArray⟩] 26))) := below_alloc (Below.refl _ _) _
      have HBR : Hid (Blk (w2.alloc (.cells #[.int .i64 kind, .slice Ar nums.length cr, .string ⟨text.toArray⟩] 26)) w2.heap.size [.int .i64 kind, .slice Ar nums.length cr, .string ⟨text.toArray⟩] 26) := Blk.new w2 _ _
      have HU3 : Hid (Sl elU64 (w2.alloc (.cells #[.int .i64 kind, .slice Ar nums.length cr, .string ⟨text.toArray⟩] 26)) ok (.slice A2 nums.length c2) nums) := ((HU.out.below HW1.out Nat.one_pos).below HB2.out Nat.one_pos).below HW3.out Nat.one_pos
      have hrb := recordBytes_any ⟨kind, nums, text⟩ (.slice A2 nums.length c2) ok _ HU3.out (Nat.le_trans (fits_le ((recRight_iff _).1 H2.out.1).2.2) (by decide)) H2.out.2
      rw [recBytes_ok H2.out] at hrb
      refine hrb.mono ?_
      clear hrb
      rintro e w4 ⟨v4, rfl, hb4, u4, rfl, ho4⟩
      obtain ⟨A4, c4, hu4, hc41, hc42, hx4⟩ := ho4.sl.one
      subst hu4
      have hR4 := HBR.out.belowS hb4
      have hP4 := (HP2.out.belowS HW3.out).belowS hb4
      have r0 := hR4.at 0 _ rfl
      have r1 := hR4.at 1 _ rfl
      have r2 := hR4.at 2 _ rfl
      have s0 := hP4.at 0 _ rfl
      have s1 := hP4.at 1 _ rfl
      have s2 := hP4.at 2 _ rfl
      have HB4 := Lib.hid hb4
      have HSS := Lib.hid (recordSame_any ⟨kind, nums, text⟩ ⟨kind, nums, text⟩ (.slice Ar nums.length cr) (.slice A2 nums.length c2) _ ok w4 ((HS2.out.below HW3.out Nat.one_pos).below hb4 Nat.one_pos) (HU3.out.below hb4 Nat.one_pos))
      clear hb4 ho4 hx4 hR4 hP4 p0 p1 p2 p3 p4 t0 t1 t2
      have hnn : (((rawOf ⟨kind, nums, text⟩).length : Int) != ((rawOf ⟨kind, nums, text⟩).length : Int)) = false := by simp
      go_wp2_with fail
      refine HSS.out.mono ?_
      rintro e w5 ⟨v5, rfl, hb5, rfl⟩
      try simp only [decide_true]
      have HB5 := Lib.hid hb5
      clear hb5
      go_wp2_with fail
      go_roundw
      case rel => exact ⟨k + 1, by omega, by go_num, below_step (below_step (below_step (below_step HB1.out HB2.out) HW3.out) HB4.out) HB5.out⟩
      case measure => simp [intOf]; omega
    · obtain rfl : k = ps.length := by omega
      go_wp2_with fail
      go_ret
      exact ⟨_, rfl, HBEL.out, rfl⟩

end Go.Proofs.YtocmnhjgknaocaaDoor

set_option linter.unusedVariables false
set_option linter.unusedSimpArgs false
set_option maxRecDepth 100000
namespace Go.Proofs.YtocmnhjgknaocaaDoor
open Go.RowKit Tb

/-! ### a row of places that grows; what they refer to lies anywhere, beside the row, and meets X -/
def OwnE (w : World) (base : Nat) (X : Nat → Prop) (v : Value) (ps : List Place) : Prop :=
  ∃ css : List (List Value), css.length = ps.length ∧ (∀ j (h : j < ps.length) (h2 : j < css.length), elPlace.R w (fun b => some b ≠ v.ownBlock ∧ X b) ps[j] css[j]) ∧ w.ownsRow base 37 5 v ps.length css.flatten
theorem OwnE.nil (w : World) (base : Nat) (X : Nat → Prop) : OwnE w base X (.slice none 0 0) [] := ⟨[], rfl, fun j h => absurd h (by simp), World.ownsRow_nil _ _ _ _⟩
theorem OwnE.weakX {w : World} {base : Nat} {X Y : Nat → Prop} {v : Value} {ps : List Place} (h : OwnE w base X v ps) (hXY : ∀ b, X b → b < w.heap.size → Y b) : OwnE w base Y v ps := by
  obtain ⟨css, hl, hR, ho⟩ := h
  exact ⟨css, hl, fun j h h2 => elPlace.weak (hR j h h2) (fun c hc hlt => ⟨hc.1, hXY c hc.2 hlt⟩), ho⟩
theorem OwnE.keep {w w1 : World} {base : Nat} {X : Nat → Prop} {v : Value} {ps : List Place} (h : OwnE w base X v ps) (hX : ∀ b, X b → b < w.heap.size → w1.heap[b]? = w.heap[b]?) (hv : ∀ b, v.ownBlock = some b → w1.heap[b]? = w.heap[b]?) : OwnE w1 base X v ps := by
  obtain ⟨css, hl, hR, ho⟩ := h
  exact ⟨css, hl, fun j h h2 => elPlace.keep (hR j h h2) (fun b hb hlt => hX b hb.2 hlt), own_at ho hv⟩
theorem OwnE.lt {w : World} {base : Nat} {X : Nat → Prop} {v : Value} {ps : List Place} (h : OwnE w base X v ps) : ∀ b, v.ownBlock = some b → base ≤ b ∧ b < w.heap.size := by
  obtain ⟨css, _, _, ho⟩ := h
  exact ho.lt
theorem OwnE.below {w w1 : World} {base : Nat} {X : Nat → Prop} {v : Value} {ps : List Place} (h : OwnE w base X v ps) (hb : Below w.heap.size w w1) : OwnE w1 base X v ps :=
  h.keep (fun b _ hlt => hb.block b hlt) fun b e => hb.block b (h.lt b e).2
theorem OwnE.sl {w : World} {base : Nat} {X : Nat → Prop} {v : Value} {ps : List Place} (h : OwnE w base X v ps) (hv : ∀ b, v.ownBlock = some b → X b) : Sl elPlace w X v ps := by
  obtain ⟨css, hl, hR, ho⟩ := h
  have hlen := OwnL.lens hl hR
  rcases ho.2 with ⟨rfl, hn⟩ | ⟨g, cap, cur, rfl, hb, hh, h1, h2, h3, h4⟩
  · obtain rfl : ps = [] := List.eq_nil_of_length_eq_zero hn
    exact Sl.nil (by omega)
  · refine ⟨_, cap, rfl, h1, by simpa [maxLen] using h2, fun hp => ⟨g, 0, rfl, hv g rfl, fun j hj => ?_⟩⟩
    have hj2 : j < css.length := by omega
    refine ⟨css[j], elPlace.weak (hR j hj hj2) (fun b hb _ => hb.2), fun i hi => ?_⟩
    have hi5 : i < 5 := hi
    have hfl := flatten_get css 5 hlen j hj2 i hi5
    show w.cell? ⟨g, 0 + j * 5 + i, none⟩ = _
    rw [← hfl, ← h4]
    have hlt : j * 5 + i < ps.length * 5 := by omega
    rw [List.getElem?_take_of_lt hlt]
    simp [World.cell?, hh]
theorem OwnE.snoc {W w1 : World} {base : Nat} {X : Nat → Prop} {v v1 : Value} {ps : List Place} {css : List (List Value)} {p : Place} {news : List Value} (hl : css.length = ps.length)
    (hR : ∀ j (h : j < ps.length) (h2 : j < css.length), elPlace.R W (fun b => some b ≠ v.ownBlock ∧ X b) ps[j] css[j]) (hx : elPlace.R W (fun b => some b ≠ v.ownBlock ∧ X b) p news)
    (hown : w1.ownsRow base 37 5 v1 (ps.length + 1) (css.flatten ++ news)) (hg : W.grownBy w1 v.ownBlock) (hlie : Lies W.heap.size v v1) : OwnE w1 base X v1 (ps ++ [p]) := by
  have hkeep : ∀ {y : Place} {cs : List Value}, elPlace.R W (fun b => some b ≠ v.ownBlock ∧ X b) y cs → elPlace.R w1 (fun b => some b ≠ v1.ownBlock ∧ X b) y cs := by
    intro y cs h
    have h2 := elPlace.weak h (ok' := fun b => (some b ≠ v.ownBlock ∧ X b) ∧ some b ≠ v1.ownBlock) (by
      intro b hb hlt
      refine ⟨hb, ?_⟩
      rcases hlie with e | ⟨c, e, hc⟩
      · rw [e]; exact hb.1
      · rw [e]; intro e2; injection e2 with e2; omega)
    exact elPlace.weak (elPlace.keep h2 (fun b hb hlt => hg.block b hlt hb.1.1)) (fun b hb _ => ⟨hb.2, hb.1.2⟩)
  refine ⟨css ++ [news], by simp [hl], ?_, ?_⟩
  · intro j h h2
    by_cases hj : j < ps.length
    · rw [List.getElem_append_left hj, List.getElem_append_left (by omega)]
      exact hkeep (hR j hj (by omega))
    · have hj2 : j = ps.length := by simp at h; omega
      subst hj2
      have e1 : (ps ++ [p])[ps.length] = p := by simp
      have e2 : (css ++ [news])[ps.length] = news := by simp [← hl]
      rw [e1, e2]
      exact hkeep hx
  · simpa using hown
theorem infoPlace : (Tryd.prog.info? 37).map (fun i => (i.zero, i.size, i.bytes)) = some (some (.agg #[.int .i64 0, .slice none 0 0, .string ⟨#[]⟩, .int .u64 0, .int .u64 0]), 5, 64) := by kernel_rfl
theorem rec_at {w : World} {ok : Nat → Prop} {A : Option Addr} {len c : Nat} {rs : List Rec} (h : Sl elRec w ok (.slice A len c) rs) {k : Nat} (hk : k < rs.length) :
    ∃ b o A2 c2, A = some ⟨b, o, none⟩ ∧ w.cell? ⟨b, o + k * 3, none⟩ = some (.int .i64 (rs[k]).kind) ∧ w.cell? ⟨b, o + k * 3 + 1, none⟩ = some (.slice A2 (rs[k]).n.length c2) ∧
      w.cell? ⟨b, o + k * 3 + 2, none⟩ = some (.string ⟨(rs[k]).text.toArray⟩) ∧ Sl elU64 w ok (.slice A2 (rs[k]).n.length c2) (rs[k]).n := by
  obtain ⟨A', c', he, h1, h2, h3⟩ := h
  injection he with e1 e2 e3
  subst e1
  obtain ⟨b, o, rfl, _, hc⟩ := h3 (by omega)
  obtain ⟨cs, ⟨u, rfl, hu⟩, hcs⟩ := hc k hk
  obtain ⟨A2, c2, rfl, _, _, _⟩ := hu.one
  exact ⟨b, o, A2, c2, rfl, hcs 0 (by decide), hcs 1 (by decide), hcs 2 (by decide), hu⟩

/-! ### full -/
structure FullAt (B : Nat) (w : World) (D L : Nat) (v : Value) (seg : Nat) (size : Int) (F : Nat → Prop) (s : PDisk) (g : PLog) (n : Nat) (ps : List Place) : Prop where
  disk : DiskIn F w D s
  log : LogAt w L D g
  fL : ¬ F L
  fB : ∀ b, F b → B ≤ b ∧ b < w.heap.size
  bL : B ≤ L
  row : OwnE w B (fun b => ¬ F b ∧ b ≠ L) v ps
  own : ∀ b, v.ownBlock = some b → ¬ F b ∧ b ≠ L
  st : LState s g seg n size ps (175 * ps.length)
  pos : 0 < n
  n_le : n ≤ ps.length + 1
  steps : s.steps.length ≤ ps.length + 1
  at_ : g.at_ ≤ 175 * ps.length
  last : ∀ p, ps.getLast? = some p → p.seg = g.seg
theorem FullAt.below {B : Nat} {w w1 : World} {D L : Nat} {v : Value} {seg : Nat} {size : Int} {F : Nat → Prop} {s : PDisk} {g : PLog} {n : Nat} {ps : List Place} (h : FullAt B w D L v seg size F s g n ps) (hb : Below w.heap.size w w1) : FullAt B w1 D L v seg size F s g n ps :=
  { h with disk := h.disk.below hb, log := h.log.below hb, fB := fun b e => ⟨(h.fB b e).1, Nat.lt_of_lt_of_le (h.fB b e).2 hb.size⟩, row := h.row.below hb }
def FullPost (w : World) (seg : Nat) (size : Int) (e : Ending) (w' : World) : Prop :=
  (e = .returned (.tuple #[.pointer none, .pointer none, .slice none 0 0, .bool false]) ∧ Below w.heap.size w w') ∨
  ∃ D L v F s g n ps, e = .returned (.tuple #[ptrV D, ptrV L, v, .bool true]) ∧ FullAt w.heap.size w' D L v seg size F s g n ps ∧ ps.length ≤ 50 ∧ madeOk seg size = true ∧ Below w.heap.size w w'
theorem DiskIn.ids {F : Nat → Prop} {w : World} {D : Nat} {s : PDisk} (h : DiskIn F w D s) {f : Nat} (hf : w.heap.size ≤ f) : f ∉ s.ids := by
  obtain ⟨a, b, c, d, h⟩ := h
  intro hm
  have := (h.fileI f hm).lt
  omega
theorem DiskIn.few {F : Nat → Prop} {w : World} {D : Nat} {s : PDisk} (h : DiskIn F w D s) : s.steps.length ≤ 1000000000 := by
  obtain ⟨a, b, c, d, h⟩ := h
  exact h.long
/-- One more record. -/
theorem FullAt.put {B : Nat} {w w5 : World} {D L : Nat} {v : Value} {seg : Nat} {size : Int} {F : Nat → Prop} {s : PDisk} {g : PLog} {n : Nat} {ps : List Place} (h : FullAt B w D L v seg size F s g n ps) (hk50 : ps.length < 50) {r : Rec} (hr : OkRec r) {f : Nat} (hf : w.heap.size ≤ f)
    {q : (Nat × Nat × Int) × PDisk × PLog} (hq : q = logAppend s g r f) (hD5 : DiskIn (fun b => F b ∨ w.heap.size ≤ b) w5 D q.2.1) (hL5 : LogAt w5 L D q.2.2) (hK : Kept (fun b => F b ∨ b = L) w w5) :
    q.1.2.2 = 0 ∧ ∃ n', LState q.2.1 q.2.2 seg n' size (ps ++ [⟨r, q.1.1, q.1.2.1⟩]) (175 * (ps.length + 1)) ∧ 0 < n' ∧ n' ≤ ps.length + 2 ∧ q.2.1.steps.length ≤ ps.length + 2 ∧ q.2.2.at_ ≤ 175 * (ps.length + 1) ∧ q.1.1 = q.2.2.seg ∧ OwnE w5 B (fun b => ¬ ((F b ∨ w.heap.size ≤ b) ∧ b < w5.heap.size) ∧ b ≠ L) v ps := by
  have hn := h.n_le
  have hst := h.steps
  have hp := h.pos
  have ha := h.at_
  obtain ⟨n', sg, a, s', g', hla, hst', h1, h2, h3, h4, h5, h6⟩ := h.st.append hr f (h.disk.ids hf) (by omega) (by omega) hp (by omega)
  rw [hla] at hq
  subst hq
  have hLlt := h.log.1.lt
  refine ⟨rfl, n', ?_, by omega, by omega, by show s'.steps.length ≤ _; omega, by show g'.at_ ≤ _; omega, h3, ?_⟩
  · have e : 175 * (ps.length + 1) = 175 * ps.length + 175 := by omega
    rw [e]
    exact hst'
  · have hsz := hK.size
    refine OwnE.keep (w := w) (h.row.weakX (Y := fun b => ¬ ((F b ∨ w.heap.size ≤ b) ∧ b < w5.heap.size) ∧ b ≠ L) fun b hb hlt => ⟨fun e => ?_, hb.2⟩) (fun b hb hlt => hK.block b hlt ?_) fun b hb => hK.block b (h.row.lt b hb).2 ?_
    · rcases e.1 with h' | h'
      · exact hb.1 h'
      · omega
    · rintro (h' | h')
      · exact hb.1 ⟨.inl h', by omega⟩
      · exact hb.2 h'
    · rintro (h' | h')
      · exact (h.own b hb).1 h'
      · exact (h.own b hb).2 h'

end Go.Proofs.YtocmnhjgknaocaaDoor
