import Derived.Test.YtocmnhjgknaocaaDoorLog5
set_option linter.unusedVariables false
set_option linter.unusedSimpArgs false
set_option maxRecDepth 100000
namespace Go.Proofs.YtocmnhjgknaocaaDoor
open Go.RowKit Tb
open Go.ChangeMaps (setBlock)

theorem Tab.ne {w : World} (h : Tab w) {L : Nat} {cs : List Value} {t : TypeId} (hB : Blk w L cs t) (hl : cs.length ≠ 20) : L ≠ 1 := by
  rintro rfl
  unfold Tab Lib.TabIs World.var? at h
  rw [gPow_eq] at h
  unfold Blk at hB
  simp only [Option.bind_some, hB] at h
  injection h with h
  have := congrArg Array.size h
  simp [Lib.pow10Tab] at this
  exact hl this
section
variable {F : Nat → Prop} {w : World} {D L : Nat} {s : PDisk} {g : PLog}
set_option maxHeartbeats 1600000 in
theorem append_turn (hD : DiskIn F w D s) (hLg : LogAt w L D g) (hLF : ¬ F L) (hFb : ∀ b, F b → b < w.heap.size) (ht : Tab w) (hFt : ¬ F 1) (r : Rec) (u : Value) (ok : Nat → Prop) (hv : Sl elU64 w ok u r.n) (htl : r.text.length ≤ 1000000000) (hu : ∀ n ∈ r.n, n < 2 ^ 64)
    (hat : g.at_ ≤ 1000000000000) (hlong : s.steps.length < 1000000000) (hmany : s.ids.length < 1000000000) {b : List UInt8} (hb : recBytes r = .ok b) (h0 : 0 < g.at_) (h1 : g.most < (g.at_ : Int) + (b.length : Int)) :
    Calls Tryd.prog 16 #[ptrV L, .agg #[.int .i64 r.kind, u, strV r.text]] w (AppPost F w D L s g r) := by
  have HB0 : Hid (Below w.heap.size w (w.alloc (.cells #[.int .i64 r.kind, u, .string ⟨r.text.toArray⟩] 26))) := below_alloc (Below.refl _ _) _
  have HRB := Lib.hid (recordBytes_any r u ok (w.alloc (.cells #[.int .i64 r.kind, u, .string ⟨r.text.toArray⟩] 26)) (hv.below (by exact HB0.out) Nat.one_pos) htl hu)
  obtain ⟨A0, k0, hu0, hk01, hk02, hx0⟩ := hv.one
  subst hu0
  have HD := Lib.hid hD
  have HLG := Lib.hid hLg
  have hLlt := hLg.1.lt
  have HFB := Lib.hid hFb
  clear hD hLg hFb hv hx0 hu
  unfold ptrV strV at *
  have hbl := recBytes_len hb
  have hm := HLG.out.2.2
  have hw1 : IntKind.u64.wrap (b.length : Int) = (b.length : Int) := by rw [IntKind.wrap_u64]; omega
  have hw2 : IntKind.u64.wrap ((g.at_ : Int) + (b.length : Int)) = (g.at_ : Int) + (b.length : Int) := by rw [IntKind.wrap_u64]; omega
  have hw3 : IntKind.u64.wrap g.most = g.most := by rw [IntKind.wrap_u64]; omega
  have hd0 : decide (0 < g.at_) = true := decide_eq_true h0
  have hd1 : decide (g.most < (g.at_ : Int) + (b.length : Int)) = true := decide_eq_true h1
  have HQ0 : Hid (∀ f, logAppend s g r f = logPut (logTurn s g f) b) := fun f => by unfold logAppend; rw [hb]; simp only; rw [if_pos ⟨h0, h1⟩]
  clear h0 h1
  rw [hb] at HRB
  have HBB := Lib.hid hb
  clear hb
  go_enter Tryd.func16, Tryd.ntmps16
  go_wp2_with fail
  refine HRB.out.mono ?_
  rintro e w1 ⟨v1, rfl, hb1, u1, rfl, ho1⟩
  have HB1 := Lib.hid (below_step HB0.out hb1)
  obtain ⟨A1, k1, hu1, hk11, hk12, hx1⟩ := ho1.sl.one
  subst hu1
  have HO1 : Hid (Sl elU8 w1 (fun x => w.heap.size ≤ x ∧ x < w1.heap.size) (.slice A1 b.length k1) b) := ho1.sl.weak (fun x hx hlt => ⟨by have hx : (w.alloc (.cells #[.int .i64 r.kind, .slice A0 r.n.length k0, .string ⟨r.text.toArray⟩] 26)).heap.size ≤ x := hx; rw [size_al] at hx; omega, hlt⟩) Nat.one_pos
  have hL1 := HLG.out.below HB1.out
  have l2 := hL1.1.at 2 _ rfl
  have l3 := hL1.1.at 3 _ rfl
  have HL1 := Lib.hid hL1
  clear hb1 ho1 hx1 hL1
  go_wp2_with fail
  refine reg_start (fun w' => w'.cell? ⟨L, 2, none⟩ = some (.int .u64 g.at_) ∧ w'.cell? ⟨L, 3, none⟩ = some (.int .i64 g.most)) (by kernel_rfl) ?_ (fun hHeld => ?_)
  · first | exact ⟨l2, l3⟩ | (dsimp only; go_keep)
  refine reg_take (v := ?v1) 0 rfl (by kernel_rfl) (by kernel_rfl) (by kernel_rfl) (by rfl) ?hy1 (by assumption) ?_
  case hy1 => (intro w hSw; (try dsimp only at hSw); go_simp; try with_reducible rfl)
  try simp only [Act.put, List.setIfInBounds_toArray, List.set_cons_zero, List.set_cons_succ]
  refine reg_take (v := ?v2) 1 rfl (by kernel_rfl) (by kernel_rfl) (by kernel_rfl) (by rfl) ?hy2 (by assumption) ?_
  case hy2 => (intro w hSw; (try dsimp only at hSw); go_simp; try with_reducible rfl)
  try simp only [Act.put, List.setIfInBounds_toArray, List.set_cons_zero, List.set_cons_succ]
  refine reg_take (v := ?v3) 2 rfl (by kernel_rfl) (by kernel_rfl) (by kernel_rfl) (by rfl) ?hy3 (by assumption) ?_
  case hy3 => (intro w hSw; (try dsimp only at hSw); go_simp; try with_reducible rfl)
  try simp only [Act.put, List.setIfInBounds_toArray, List.set_cons_zero, List.set_cons_succ]
  refine reg_take (v := ?v4) 3 rfl (by kernel_rfl) (by kernel_rfl) (by kernel_rfl) (by rfl) ?hy4 (by assumption) ?_
  case hy4 => (intro w hSw; (try dsimp only at hSw); go_simp; try with_reducible rfl)
  try simp only [Act.put, List.setIfInBounds_toArray, List.set_cons_zero, List.set_cons_succ]
  refine reg_take (v := ?v5) 4 rfl (by kernel_rfl) (by kernel_rfl) (by kernel_rfl) (by rfl) ?hy5 (by assumption) ?_
  case hy5 => (intro w hSw; (try dsimp only at hSw); go_simp; try with_reducible rfl)
  try simp only [Act.put, List.setIfInBounds_toArray, List.set_cons_zero, List.set_cons_succ]
  refine reg_take (v := ?v6) 5 rfl (by kernel_rfl) (by kernel_rfl) (by kernel_rfl) (by rfl) ?hy6 (by assumption) ?_
  case hy6 => (intro w hSw; (try dsimp only at hSw); go_simp; try with_reducible rfl)
  try simp only [Act.put, List.setIfInBounds_toArray, List.set_cons_zero, List.set_cons_succ]
  refine reg_take (v := ?v7) 6 rfl (by kernel_rfl) (by kernel_rfl) (by kernel_rfl) (by rfl) ?hy7 (by assumption) ?_
  case hy7 => (intro w hSw; (try dsimp only at hSw); go_simp; try with_reducible rfl)
  try simp only [Act.put, List.setIfInBounds_toArray, List.set_cons_zero, List.set_cons_succ]
  refine reg_take (v := ?v8) 7 rfl (by kernel_rfl) (by kernel_rfl) (by kernel_rfl) (by rfl) ?hy8 (by assumption) ?_
  case hy8 => (intro w hSw; (try dsimp only at hSw); go_simp; try with_reducible rfl)
  try simp only [Act.put, List.setIfInBounds_toArray, List.set_cons_zero, List.set_cons_succ]
  refine reg_take (v := ?v9) 8 rfl (by kernel_rfl) (by kernel_rfl) (by kernel_rfl) (by rfl) ?hy9 (by assumption) ?_
  case hy9 => (intro w hSw; (try dsimp only at hSw); go_simp; try with_reducible rfl)
  try simp only [Act.put, List.setIfInBounds_toArray, List.set_cons_zero, List.set_cons_succ]
  refine reg_take (v := ?v10) 9 rfl (by kernel_rfl) (by kernel_rfl) (by kernel_rfl) (by rfl) ?hy10 (by assumption) ?_
  case hy10 => (intro w hSw; (try dsimp only at hSw); go_simp; try with_reducible rfl)
  try simp only [Act.put, List.setIfInBounds_toArray, List.set_cons_zero, List.set_cons_succ]
  refine reg_take (v := ?v11) 10 rfl (by kernel_rfl) (by kernel_rfl) (by kernel_rfl) (by rfl) ?hy11 (by assumption) ?_
  case hy11 => (intro w hSw; (try dsimp only at hSw); go_simp; try with_reducible rfl)
  try simp only [Act.put, List.setIfInBounds_toArray, List.set_cons_zero, List.set_cons_succ]
  refine reg_take (v := ?v12) 11 rfl (by kernel_rfl) (by kernel_rfl) (by kernel_rfl) (by rfl) ?hy12 (by assumption) ?_
  case hy12 => (intro w hSw; (try dsimp only at hSw); go_simp; try with_reducible rfl)
  try simp only [Act.put, List.setIfInBounds_toArray, List.set_cons_zero, List.set_cons_succ]
  refine reg_take (v := ?v13) 12 rfl (by kernel_rfl) (by kernel_rfl) (by kernel_rfl) (by rfl) ?hy13 (by assumption) ?_
  case hy13 => (intro w hSw; (try dsimp only at hSw); go_simp; try with_reducible rfl)
  try simp only [Act.put, List.setIfInBounds_toArray, List.set_cons_zero, List.set_cons_succ]
  refine reg_take (v := ?v14) 13 rfl (by kernel_rfl) (by kernel_rfl) (by kernel_rfl) (by rfl) ?hy14 (by assumption) ?_
  case hy14 => (intro w hSw; (try dsimp only at hSw); go_simp; try with_reducible rfl)
  try simp only [Act.put, List.setIfInBounds_toArray, List.set_cons_zero, List.set_cons_succ]
  refine reg_take (v := ?v15) 14 rfl (by kernel_rfl) (by kernel_rfl) (by kernel_rfl) (by rfl) ?hy15 (by assumption) ?_
  case hy15 => (intro w hSw; (try dsimp only at hSw); go_simp; try with_reducible rfl)
  try simp only [Act.put, List.setIfInBounds_toArray, List.set_cons_zero, List.set_cons_succ]
  refine reg_take (v := ?v16) 15 rfl (by kernel_rfl) (by kernel_rfl) (by kernel_rfl) (by rfl) ?hy16 (by assumption) ?_
  case hy16 => (intro w hSw; (try dsimp only at hSw); go_simp; try with_reducible rfl)
  try simp only [Act.put, List.setIfInBounds_toArray, List.set_cons_zero, List.set_cons_succ]
  refine reg_take (v := ?v17) 16 rfl (by kernel_rfl) (by kernel_rfl) (by kernel_rfl) (by rfl) ?hy17 (by assumption) ?_
  case hy17 => (intro w hSw; (try dsimp only at hSw); go_simp; try with_reducible rfl)
  try simp only [Act.put, List.setIfInBounds_toArray, List.set_cons_zero, List.set_cons_succ]
  refine reg_take (v := ?v18) 17 rfl (by kernel_rfl) (by kernel_rfl) (by kernel_rfl) (by rfl) ?hy18 (by assumption) ?_
  case hy18 => (intro w hSw; (try dsimp only at hSw); go_simp; try with_reducible rfl)
  try simp only [Act.put, List.setIfInBounds_toArray, List.set_cons_zero, List.set_cons_succ]
  refine reg_take (v := ?v19) 18 rfl (by kernel_rfl) (by kernel_rfl) (by kernel_rfl) (by rfl) ?hy19 (by assumption) ?_
  case hy19 => (intro w hSw; (try dsimp only at hSw); go_simp; try with_reducible rfl)
  try simp only [Act.put, List.setIfInBounds_toArray, List.set_cons_zero, List.set_cons_succ]
  refine reg_take (v := ?v20) 19 rfl (by kernel_rfl) (by kernel_rfl) (by kernel_rfl) (by rfl) ?hy20 (by assumption) ?_
  case hy20 => (intro w hSw; (try dsimp only at hSw); go_simp; try with_reducible rfl)
  try simp only [Act.put, List.setIfInBounds_toArray, List.set_cons_zero, List.set_cons_succ]
  refine reg_take (v := ?v21) 20 rfl (by kernel_rfl) (by kernel_rfl) (by kernel_rfl) (by rfl) ?hy21 (by assumption) ?_
  case hy21 => (intro w hSw; (try dsimp only at hSw); go_simp; try with_reducible rfl)
  try simp only [Act.put, List.setIfInBounds_toArray, List.set_cons_zero, List.set_cons_succ]
  refine reg_done (by kernel_rfl) ?_
  clear hHeld l2 l3 hw1 hw2 hw3 hd0 hd1
  have HTT : Hid (Calls Tryd.prog 53 #[.pointer (some ⟨L, 0, none⟩)] (w1.drewN 1) (TurnPost F (w1.drewN 1) D L s g)) := turn_any (HD.out.below (below_drewN HB1.out 1)) (HL1.out.below (below_drewN (Below.refl _ _) 1)) hLF (ht.below (below_drewN HB1.out 1)) hlong hmany
  have HTW : Hid (Tab (w1.drewN 1)) := ht.below (below_drewN HB1.out 1)
  have HGL : Hid (L ≠ 1) := ht.ne HLG.out.1 (by simp)
  go_wp2_with fail
  refine HTT.out.mono ?_
  rintro e w2 ⟨f, hf, rfl, hD2, hL2, hK2⟩
  rcases hq2 : logTurn s g f with ⟨e1, s2, g2⟩
  rw [hq2] at hD2 hL2
  have hs1 : (w1.drewN 1).heap.size = w1.heap.size := rfl
  rw [hs1] at hf hD2
  have HFX : Hid (w.heap.size ≤ f) := by have := HB1.out.size; unfold Hid; omega
  have hKA : Kept (fun x => F x ∨ x = L) w w2 := (Kept.of_below (below_drewN HB1.out 1)).trans hK2 fun i _ h => h
  have hsz2 := hK2.size
  by_cases he1 : e1 = 0
  · subst he1
    have hat2 : g2.at_ ≤ 1000000000000 := by
      unfold logTurn at hq2
      split at hq2
      · split at hq2
        · injection hq2 with _ h; injection h with _ h; subst h; show 0 ≤ _; omega
        · rename_i hc; injection hq2 with h _; exact absurd h hc
      · injection hq2 with h _; cases h
    have HQ : Hid (logAppend s g r f = logPut (0, s2, g2) b) := by unfold Hid; rw [HQ0.out, hq2]
    have HT2 : Hid (Tab w2) := HTW.out.kept hK2 fun h => h.elim hFt fun e => HGL.out e.symm
    have HD2 := Lib.hid hD2
    have HL2 := Lib.hid hL2
    have HS2 : Hid (Sl elU8 w2 (fun x => w.heap.size ≤ x ∧ x < w1.heap.size) (.slice A1 b.length k1) b) := (Sl.heap (w' := w1.drewN 1) HO1.out rfl Nat.one_pos).kept hK2 (fun x hx h => h.elim (fun h => by have := HFB.out x h; omega) fun e => by omega) Nat.one_pos
    have HOK2 : Hid (∀ x, (w.heap.size ≤ x ∧ x < w1.heap.size) → ¬ (F x ∨ w1.heap.size ≤ x)) := fun x hx h => h.elim (fun h => by have := HFB.out x h; omega) fun h => by omega
    have HLF2 : Hid (¬ (F L ∨ w1.heap.size ≤ L)) := fun h => h.elim hLF fun h => by have := HB1.out.size; omega
    have HFF : Hid (∀ x, (F x ∨ w1.heap.size ≤ x) → F x ∨ w.heap.size ≤ x) := fun x h => h.imp id fun h => by have := HB1.out.size; omega
    have HKF : Hid (∀ x, x < w.heap.size → (F x ∨ w1.heap.size ≤ x) → F x ∨ x = L) := fun x hx h => h.elim .inl fun h => by have := HB1.out.size; omega
    have HK2 := Lib.hid hKA
    have HZ0 : Hid (w.heap.size ≤ w2.heap.size) := hKA.size
    have hbe : ((0 : Int) != 0) = false := rfl
    clear hq2 hD2 hL2 hK2 hKA hf hs1 hsz2
    have hseg2 := HL2.out.2.1
    have HO2 := Lib.hid (segOf_any g2.seg hseg2 w2 HT2.out)
    have p1 := HL2.out.1.at 1 _ rfl
    go_wp2_with fail
    refine HO2.out.mono ?_
    rintro e w3 ⟨v3, rfl, hb3, rfl⟩
    have p0 := (HL2.out.below hb3).1.at 0 _ rfl
    have HL3 := Lib.hid (HL2.out.below hb3)
    have HB3 := Lib.hid hb3
    have HDA := Lib.hid (appendI (HD2.out.below hb3) (segName g2.seg) (.slice A1 b.length k1) b _ (HS2.out.below hb3 Nat.one_pos) HOK2.out (by omega))
    clear hb3 p1
    go_wp2_with fail
    refine HDA.out.mono ?_
    intro e w4 hp4
    obtain ⟨rfl, hD4, hK4⟩ := hp4.disk
    have hL4 := HL3.out.kept hK4 HLF2.out
    have q1 := hL4.1.at 1 _ rfl
    have q2 := hL4.1.at 2 _ rfl
    have q4 := hL4.1.at 4 _ rfl
    have qf2 := hL4.1.frozen 2
    have qf4 := hL4.1.frozen 4
    have HD4 := Lib.hid hD4
    have HK4 := Lib.hid hK4
    have HL4 := Lib.hid hL4
    have HZ : Hid (w2.heap.size ≤ w3.heap.size ∧ w3.heap.size ≤ w4.heap.size) := ⟨HB3.out.size, hK4.size⟩
    clear hp4 hD4 hK4 hL4 p0
    rcases hc : (s2.append (segName g2.seg) b).1 == 0 with _ | _
    · have hn : ((s2.append (segName g2.seg) b).1 != 0) = true := by rw [bne, hc]; rfl
      have HC := Lib.hid hc
      clear hc
      go_wp2_with fail
      go_ret3
      have hc0 : ¬ (s2.append (segName g2.seg) b).1 = 0 := by simpa using HC.out
      have hq : logPut (0, s2, g2) b = ((0, 0, (s2.append (segName g2.seg) b).1), (s2.append (segName g2.seg) b).2, g2) := by unfold logPut; rw [if_neg (by simp), if_neg hc0]
      refine ⟨f, HFX.out, ?_⟩
      rw [HQ.out, hq]
      refine ⟨rfl, HD4.out.keepF (fun _ _ _ => rfl) fun x hx => ?_, HL4.out, ?_⟩
      · rcases hx with hx | hx
        · exact HFF.out x hx
        · exact .inr (by have := HZ.out; have := HZ0.out; omega)
      · exact (HK2.out.trans (Kept.of_below (F := fun x => F x ∨ w1.heap.size ≤ x) HB3.out) fun x hx h => HKF.out x hx h).trans HK4.out fun x hx h => HKF.out x hx h
    · have hn : ((s2.append (segName g2.seg) b).1 != 0) = false := by rw [bne, hc]; rfl
      have HC := Lib.hid hc
      clear hc
      go_wp2_with fail
      go_region
      have hmin : min (g2.dirty : Int) (g2.seg : Int) = ((min g2.dirty g2.seg : Nat) : Int) := by omega
      rw [hmin]
      clear hmin
      obtain ⟨W, hW⟩ : ∃ W, W = (w4.setCell ⟨L, 2, none⟩ (.int .u64 ((g2.at_ : Int) + (b.length : Int)))).setCell ⟨L, 4, none⟩ (.int .u64 ((min g2.dirty g2.seg : Nat) : Int)) := ⟨_, rfl⟩
      rw [← hW]
      have hLW : LogAt W.drew L D { g2 with at_ := g2.at_ + b.length, dirty := min g2.dirty g2.seg } := by
        refine HL4.out.set ?_ hseg2 rfl
        have hB := (HL4.out.1.set 2 (.int .u64 ((g2.at_ : Int) + (b.length : Int)))).set 4 (.int .u64 ((min g2.dirty g2.seg : Nat) : Int))
        rw [hW]
        have e : ((g2.at_ : Int) + (b.length : Int)) = ((g2.at_ + b.length : Nat) : Int) := by omega
        rw [e] at hB ⊢
        exact hB
      have HW := Lib.hid hW
      have HLW := Lib.hid hLW
      have r1 := hLW.1.at 1 _ rfl
      clear hW hLW
      go_wp2_with fail
      go_ret3
      have hc0 : (s2.append (segName g2.seg) b).1 = 0 := by simpa using HC.out
      have hq : logPut (0, s2, g2) b = ((g2.seg, g2.at_, 0), (s2.append (segName g2.seg) b).2, { g2 with at_ := g2.at_ + b.length, dirty := min g2.dirty g2.seg }) := by unfold logPut; rw [if_neg (by simp), if_pos hc0]
      have hkeep : ∀ x, x ≠ L → W.drew.heap[x]? = w4.heap[x]? := fun x h1 => by
        rw [HW.out]
        exact (Below.heap_setCell _ _ _ x h1).trans (Below.heap_setCell w4 _ _ x h1)
      have hs4 : W.drew.heap.size = w4.heap.size := by rw [HW.out]; simp [World.setCell, World.drew]
      have ho4 : W.drew.os = w4.os ∧ W.drew.tape = w4.tape ∧ W.drew.output = w4.output := by rw [HW.out]; exact ⟨rfl, rfl, rfl⟩
      refine ⟨f, HFX.out, ?_⟩
      rw [HQ.out, hq]
      refine ⟨rfl, HD4.out.keepF (fun x hx _ => hkeep x fun e => ?_) fun x hx => ?_, HLW.out, ?_⟩
      · subst e
        rcases hx with hx | hx
        · exact HLF2.out hx
        · have := HL3.out.1.lt; omega
      · rcases hx with hx | hx
        · exact HFF.out x hx
        · exact .inr (by have := HZ.out; have := HZ0.out; omega)
      · refine ((HK2.out.trans (Kept.of_below (F := fun x => F x ∨ w1.heap.size ≤ x) HB3.out) fun x hx h => HKF.out x hx h).trans HK4.out fun x hx h => HKF.out x hx h).trans (c := W.drew) (G := fun x => x = L) ⟨ho4.1, ho4.2.1, ho4.2.2, by omega, fun x _ hn => hkeep x hn⟩ fun x _ e => .inr e
  · have HQ : Hid (logAppend s g r f = ((0, 0, e1), s2, g2)) := by unfold Hid; rw [HQ0.out, hq2]; unfold logPut; rw [if_pos he1]
    have hbe : (e1 != 0) = true := by rw [bne_iff_ne]; exact he1
    have HD2 := Lib.hid hD2
    have HL2 := Lib.hid hL2
    have HK2 := Lib.hid hKA
    clear hq2 hD2 hL2 hK2 hKA hf hs1 hsz2 he1
    go_wp2_with fail
    go_ret3
    refine ⟨f, HFX.out, ?_⟩
    rw [HQ.out]
    exact ⟨rfl, HD2.out.keepF (fun _ _ _ => rfl) fun x h => h.imp id fun h => by have := HB1.out.size; omega, HL2.out, HK2.out⟩

theorem logAppend_any (hD : DiskIn F w D s) (hLg : LogAt w L D g) (hLF : ¬ F L) (hFb : ∀ b, F b → b < w.heap.size) (ht : Tab w) (hFt : ¬ F 1) (r : Rec) (u : Value) (ok : Nat → Prop) (hv : Sl elU64 w ok u r.n) (htl : r.text.length ≤ 1000000000) (hu : ∀ n ∈ r.n, n < 2 ^ 64)
    (hat : g.at_ ≤ 1000000000000) (hlong : s.steps.length < 1000000000) (hmany : s.ids.length < 1000000000) : Calls Tryd.prog 16 #[ptrV L, .agg #[.int .i64 r.kind, u, strV r.text]] w (AppPost F w D L s g r) := by
  rcases hb : recBytes r with er | b
  · exact append_err hD hLg hLF hFb ht hFt r u ok hv htl hu hat hlong hmany hb
  · by_cases h0 : g.at_ = 0
    · exact append_first hD hLg hLF hFb ht hFt r u ok hv htl hu hat hlong hmany hb h0
    · by_cases h1 : g.most < (g.at_ : Int) + (b.length : Int)
      · exact append_turn hD hLg hLF hFb ht hFt r u ok hv htl hu hat hlong hmany hb (by omega) h1
      · exact append_stay hD hLg hLF hFb ht hFt r u ok hv htl hu hat hlong hmany hb (by omega) h1
end

end Go.Proofs.YtocmnhjgknaocaaDoor

set_option linter.unusedVariables false
set_option linter.unusedSimpArgs false
set_option maxRecDepth 100000
namespace Go.Proofs.YtocmnhjgknaocaaDoor
open Go.RowKit Tb
open Go.ChangeMaps (setBlock)

theorem dsyncI {F : Nat → Prop} {w : World} {D : Nat} {s : PDisk} (h : DiskIn F w D s) (n : List UInt8) : Calls Tryd.prog 56 #[.pointer (some ⟨D, 0, none⟩), .string ⟨n.toArray⟩] w (OpPost F w D (s.sync n)) := by
  obtain ⟨mS, mT, vT, bv, h⟩ := h
  exact dsync_any h n
theorem dirSyncI {F : Nat → Prop} {w : World} {D : Nat} {s : PDisk} (h : DiskIn F w D s) : Calls Tryd.prog 77 #[.pointer (some ⟨D, 0, none⟩)] w (OpPost F w D s.dirSync) := by
  obtain ⟨mS, mT, vT, bv, h⟩ := h
  exact dirSync_any h

/-! ### Sync -/
def syncN : Nat → Nat → PDisk → Int × PDisk
  | 0, _, s => (0, s)
  | k + 1, seg, s => if (s.sync (segName seg)).1 = 0 then syncN k (seg + 1) (s.sync (segName seg)).2 else s.sync (segName seg)
def syncAll (s : PDisk) (g : PLog) : Int × PDisk := syncN (g.seg + 1 - min g.dirty (g.seg + 1)) g.dirty s
def logSync (s : PDisk) (g : PLog) : Int × PDisk × PLog :=
  if (syncAll s g).1 = 0 then
    if g.begun then
      if (syncAll s g).2.dirSync.1 = 0 then (0, (syncAll s g).2.dirSync.2, { g with dirty := g.seg + 1, begun := false }) else ((syncAll s g).2.dirSync.1, (syncAll s g).2.dirSync.2, g)
    else (0, (syncAll s g).2, { g with dirty := g.seg + 1, begun := false })
  else ((syncAll s g).1, (syncAll s g).2, g)
def SyncPost (F : Nat → Prop) (w : World) (D L : Nat) (q : Int × PDisk × PLog) (e : Ending) (w' : World) : Prop :=
  e = .returned (.int .i64 q.1) ∧ DiskIn (fun b => F b ∨ w.heap.size ≤ b) w' D q.2.1 ∧ LogAt w' L D q.2.2 ∧ Kept (fun b => F b ∨ b = L) w w'

set_option maxHeartbeats 1600000 in
theorem logSync_any {F : Nat → Prop} {w : World} {D L : Nat} {s : PDisk} {g : PLog} (hD : DiskIn F w D s) (hLg : LogAt w L D g) (hLF : ¬ F L) (ht : Tab w) (hFt : ¬ F 1) :
    Calls Tryd.prog 46 #[ptrV L] w (SyncPost F w D L (logSync s g)) := by
  have l1 := hLg.1.at 1 _ rfl
  have l4 := hLg.1.at 4 _ rfl
  have hseg := hLg.2.1
  have hLlt := hLg.1.lt
  have HLG := Lib.hid hLg
  have HD := Lib.hid hD
  have HT := Lib.hid ht
  clear hD hLg ht
  obtain ⟨N, hN⟩ : ∃ N, N = g.seg + 1 - min g.dirty (g.seg + 1) := ⟨_, rfl⟩
  have HN := Lib.hid hN
  have hw1 : IntKind.u64.wrap ((g.seg : Int) + 1) = (g.seg : Int) + 1 := by rw [IntKind.wrap_u64]; omega
  have hw2 : IntKind.u64.wrap ((g.seg : Int) + 1 - min (g.dirty : Int) ((g.seg : Int) + 1)) = (N : Int) := by rw [IntKind.wrap_u64]; omega
  clear hN
  unfold ptrV
  go_enter Tryd.func46, Tryd.ntmps46
  go_wp2
  go_quiet (fail)
  go_wp2
  clear hw1 hw2 l1 l4
  go_loopw [24] (fun i wr => ∃ (k : Nat) (s' : PDisk), k ≤ N ∧ i = .int .u64 k ∧ syncAll s g = syncN (N - k) (g.dirty + k) s' ∧ DiskIn (fun b => F b ∨ w.heap.size ≤ b) wr D s' ∧ Kept F w wr) (fun i _ => N - (intOf i).toNat)
  case atStart =>
    refine ⟨0, s, by omega, rfl, ?_, (HD.out.below (below_drewN (Below.refl _ _) _)).keepF (fun _ _ _ => rfl) fun b hb => .inl hb, Kept.of_below (below_drewN (Below.refl _ _) _)⟩
    unfold syncAll
    rw [← HN.out]
    rfl
  case round =>
    obtain ⟨k, s', hk, rfl, hq, hD', hK⟩ := hrel
    have hLk := HLG.out.kept hK hLF
    have HQ := Lib.hid hq
    have HDk := Lib.hid hD'
    have HK := Lib.hid hK
    have HLK := Lib.hid hLk
    clear hq hD' hK
    by_cases hlt : k < N
    · have hdk : g.dirty + k < 10000000000 := by have := HN.out; omega
      have hdk2 : g.dirty < 10000000000 := by omega
      obtain ⟨m, hm⟩ : ∃ m, N - k = m + 1 := ⟨N - k - 1, by omega⟩
      have HM := Lib.hid hm
      have l0 := hLk.1.at 0 _ rfl
      have l4 := hLk.1.at 4 _ rfl
      have HO := Lib.hid (segOf_any (g.dirty + k) hdk wr (HT.out.kept HK.out hFt))
      clear hLk hm
      go_wp2_with fail
      refine HO.out.mono ?_
      rintro e w1 ⟨v1, rfl, hb1, rfl⟩
      have m0 := (HLK.out.below hb1).1.at 0 _ rfl
      have HS := Lib.hid (dsyncI (HDk.out.below hb1) (segName (g.dirty + k)))
      have HB1 := Lib.hid hb1
      clear l0 l4 hb1
      go_wp2_with fail
      refine HS.out.mono ?_
      intro e w2 hp2
      obtain ⟨rfl, hD2, hK2⟩ := hp2.disk
      have hsz : w.heap.size ≤ wr.heap.size := HK.out.size
      have hsz1 := HB1.out.size
      have HD2 : Hid (DiskIn (fun b => F b ∨ w.heap.size ≤ b) w2 D (s'.sync (segName (g.dirty + k))).2) := hD2.keepF (fun _ _ _ => rfl) fun b hb => hb.elim id fun h => .inr (by omega)
      have HK2 : Hid (Kept F w w2) := (HK.out.trans (Kept.of_below (F := F) HB1.out) fun i _ h => h).trans hK2 fun i hi h => h.elim id fun h => by omega
      clear hp2 hD2 hK2 m0
      rcases hc : (s'.sync (segName (g.dirty + k))).1 == 0 with _ | _
      · have hn : ((s'.sync (segName (g.dirty + k))).1 != 0) = true := by rw [bne, hc]; rfl
        have HC := Lib.hid hc
        clear hc
        go_wp2_with fail
        go_ret
        have hc0 : ¬ (s'.sync (segName (g.dirty + k))).1 = 0 := by simpa using HC.out
        have hs : syncAll s g = s'.sync (segName (g.dirty + k)) := by rw [HQ.out, HM.out, syncN, if_neg hc0]
        have hl : logSync s g = ((s'.sync (segName (g.dirty + k))).1, (s'.sync (segName (g.dirty + k))).2, g) := by unfold logSync; rw [hs, if_neg hc0]
        rw [hl]
        exact ⟨rfl, HD2.out, HLG.out.kept HK2.out hLF, HK2.out.mono fun b h => .inl h⟩
      · have hn : ((s'.sync (segName (g.dirty + k))).1 != 0) = false := by rw [bne, hc]; rfl
        have HC := Lib.hid hc
        clear hc
        go_wp2_with fail
        go_roundw
        case rel =>
          have hc0 : (s'.sync (segName (g.dirty + k))).1 = 0 := by simpa using HC.out
          refine ⟨k + 1, _, by omega, by go_num, ?_, HD2.out, HK2.out⟩
          rw [HQ.out, HM.out, syncN, if_pos hc0]
          have e1 : N - (k + 1) = m := by have := HM.out; omega
          rw [e1]
          rfl
        case measure => simp [intOf]; omega
    · have HSA : Hid (syncAll s g = (0, s')) := by
        have e : N - k = 0 := by omega
        unfold Hid
        rw [HQ.out, e]
        rfl
      have l0 := hLk.1.at 0 _ rfl
      have l1 := hLk.1.at 1 _ rfl
      have l4 := hLk.1.at 4 _ rfl
      have l5 := hLk.1.at 5 _ rfl
      have f4 := hLk.1.frozen 4
      have f5 := hLk.1.frozen 5
      have hLn : ∀ b, (F b ∨ w.heap.size ≤ b) → b ≠ L := fun b hb e => by
        subst e
        rcases hb with hb | hb
        · exact hLF hb
        · omega
      have HLN := Lib.hid hLn
      clear hLk HQ hLn
      obtain rfl : k = N := by omega
      rcases hbg : g.begun with _ | _
      · rw [hbg] at l5
        have HBG := Lib.hid hbg
        clear hbg
        go_wp2_with fail
        go_ret
        have hl : logSync s g = (0, s', { g with dirty := g.seg + 1, begun := false }) := by unfold logSync; rw [HSA.out, if_pos rfl, HBG.out]; rfl
        rw [hl]
        refine ⟨rfl, HDk.out.keepF (fun b hb _ => (Below.heap_setCell _ _ _ b (HLN.out b hb)).trans (Below.heap_setCell _ _ _ b (HLN.out b hb))) fun b hb => hb, HLK.out.set ((HLK.out.1.set 4 _).set 5 _) hseg rfl, ?_⟩
        exact (HK.out.mono fun b h => .inl h).trans (G := fun b => b = L) (kept_set (B := L) (kept_set (B := L) (Kept.refl _ _) _ _) _ _) fun i _ e => .inr e
      · rw [hbg] at l5
        have HBG := Lib.hid hbg
        have HDS := Lib.hid (dirSyncI HDk.out)
        clear hbg
        go_wp2_with fail
        refine HDS.out.mono ?_
        intro e w2 hp2
        obtain ⟨rfl, hD2, hK2⟩ := hp2.disk
        have hsz : w.heap.size ≤ wr.heap.size := HK.out.size
        have hL2 := HLK.out.kept hK2 (fun h => HLN.out L h rfl)
        have HD2 : Hid (DiskIn (fun b => F b ∨ w.heap.size ≤ b) w2 D s'.dirSync.2) := hD2.keepF (fun _ _ _ => rfl) fun b hb => hb.elim id fun h => .inr (by omega)
        have HK2 : Hid (Kept F w w2) := HK.out.trans hK2 fun i hi h => h.elim id fun h => by omega
        have m1 := hL2.1.at 1 _ rfl
        have m4 := hL2.1.at 4 _ rfl
        have m5 := hL2.1.at 5 _ rfl
        have mf4 := hL2.1.frozen 4
        have mf5 := hL2.1.frozen 5
        have HL2 := Lib.hid hL2
        clear hp2 hD2 hK2 l0 l1 l4 l5 f4 f5 hL2
        rcases hc : s'.dirSync.1 == 0 with _ | _
        · have hn : (s'.dirSync.1 != 0) = true := by rw [bne, hc]; rfl
          have HC := Lib.hid hc
          clear hc
          go_wp2_with fail
          go_ret
          have hc0 : ¬ s'.dirSync.1 = 0 := by simpa using HC.out
          have hl : logSync s g = (s'.dirSync.1, s'.dirSync.2, g) := by unfold logSync; rw [HSA.out, if_pos rfl, HBG.out, if_pos rfl, if_neg hc0]
          rw [hl]
          exact ⟨rfl, HD2.out, HL2.out, HK2.out.mono fun b h => .inl h⟩
        · have hn : (s'.dirSync.1 != 0) = false := by rw [bne, hc]; rfl
          have HC := Lib.hid hc
          clear hc
          go_wp2_with fail
          go_ret
          have hc0 : s'.dirSync.1 = 0 := by simpa using HC.out
          have hl : logSync s g = (0, s'.dirSync.2, { g with dirty := g.seg + 1, begun := false }) := by unfold logSync; rw [HSA.out, if_pos rfl, HBG.out, if_pos rfl, if_pos hc0]
          rw [hl]
          refine ⟨rfl, HD2.out.keepF (fun b hb _ => (Below.heap_setCell _ _ _ b (HLN.out b hb)).trans (Below.heap_setCell _ _ _ b (HLN.out b hb))) fun b hb => hb, HL2.out.set ((HL2.out.1.set 4 _).set 5 _) hseg rfl, ?_⟩
          exact (HK2.out.mono fun b h => .inl h).trans (G := fun b => b = L) (kept_set (B := L) (kept_set (B := L) (Kept.refl _ _) _ _) _ _) fun i _ e => .inr e

end Go.Proofs.YtocmnhjgknaocaaDoor
