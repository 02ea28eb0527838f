import Derived.Test.YtocmnhjgknaocaaDoorLog4
set_option linter.unusedVariables false
set_option linter.unusedSimpArgs false
set_option maxRecDepth 100000
namespace Go.Proofs.YtocmnhjgknaocaaDoor
open Go.RowKit Tb
open Go.ChangeMaps (setBlock)

theorem appendI {F : Nat → Prop} {w : World} {D : Nat} {s : PDisk} (h : DiskIn F w D s) (n : List UInt8) (v : Value) (b : List UInt8) (ok : Nat → Prop) (hv : Sl elU8 w ok v b) (hok : ∀ x, ok x → ¬ F x) (hl : b.length ≤ 1000000000) :
    Calls Tryd.prog 32 #[.pointer (some ⟨D, 0, none⟩), .string ⟨n.toArray⟩, v] w (OpPost F w D (s.append n b)) := by
  obtain ⟨mS, mT, vT, bv, h⟩ := h
  exact append_any h n v b ok hv hok hl
theorem recBytes_len {r : Rec} {b : List UInt8} (h : recBytes r = .ok b) : b.length ≤ 411 := by
  unfold recBytes at h
  split at h
  · unfold frmBytes at h
    split at h
    · cases h
    · injection h with h
      subst h
      rw [frmRaw_length]
      omega
  · cases h
theorem recBytes_err {r : Rec} {e : Int} (h : recBytes r = .error e) : e = 1 ∨ e = 4 := by
  unfold recBytes at h
  split at h
  · unfold frmBytes at h
    split at h
    · injection h with h; exact .inr h.symm
    · cases h
  · injection h with h; exact .inl h.symm

/-! ### Append -/
def logPut (t : Int × PDisk × PLog) (b : List UInt8) : (Nat × Nat × Int) × PDisk × PLog :=
  if t.1 ≠ 0 then ((0, 0, t.1), t.2.1, t.2.2)
  else if (t.2.1.append (segName t.2.2.seg) b).1 = 0 then ((t.2.2.seg, t.2.2.at_, 0), (t.2.1.append (segName t.2.2.seg) b).2, { t.2.2 with at_ := t.2.2.at_ + b.length, dirty := min t.2.2.dirty t.2.2.seg })
  else ((0, 0, (t.2.1.append (segName t.2.2.seg) b).1), (t.2.1.append (segName t.2.2.seg) b).2, t.2.2)
def logAppend (s : PDisk) (g : PLog) (r : Rec) (f : Nat) : (Nat × Nat × Int) × PDisk × PLog :=
  match recBytes r with
  | .error e => ((0, 0, e), s, g)
  | .ok b => if 0 < g.at_ ∧ g.most < (g.at_ : Int) + (b.length : Int) then logPut (logTurn s g f) b else logPut (0, s, g) b
def AppPost (F : Nat → Prop) (w : World) (D L : Nat) (s : PDisk) (g : PLog) (r : Rec) (e : Ending) (w' : World) : Prop :=
  ∃ f, w.heap.size ≤ f ∧ e = .returned (.tuple #[.int .u64 (logAppend s g r f).1.1, .int .u64 (logAppend s g r f).1.2.1, .int .i64 (logAppend s g r f).1.2.2]) ∧ DiskIn (fun b => F b ∨ w.heap.size ≤ b) w' D (logAppend s g r f).2.1 ∧
    LogAt w' L D (logAppend s g r f).2.2 ∧ Kept (fun b => F b ∨ b = L) w w'

section
variable {F : Nat → Prop} {w : World} {D L : Nat} {s : PDisk} {g : PLog}
set_option maxHeartbeats 800000 in
theorem append_err (hD : DiskIn F w D s) (hLg : LogAt w L D g) (hLF : ¬ F L) (hFb : ∀ b, F b → b < w.heap.size) (ht : Tab w) (hFt : ¬ F 1) (r : Rec) (u : Value) (ok : Nat → Prop) (hv : Sl elU64 w ok u r.n) (htl : r.text.length ≤ 1000000000) (hu : ∀ n ∈ r.n, n < 2 ^ 64)
    (hat : g.at_ ≤ 1000000000000) (hlong : s.steps.length < 1000000000) (hmany : s.ids.length < 1000000000) {er : Int} (hb : recBytes r = .error er) :
    Calls Tryd.prog 16 #[ptrV L, .agg #[.int .i64 r.kind, u, strV r.text]] w (AppPost F w D L s g r) := by
  have HB0 : Hid (Below w.heap.size w (w.alloc (.cells #[.int .i64 r.kind, u, .string ⟨r.text.toArray⟩] 26))) := below_alloc (Below.refl _ _) _
  have HRB := Lib.hid (recordBytes_any r u ok (w.alloc (.cells #[.int .i64 r.kind, u, .string ⟨r.text.toArray⟩] 26)) (hv.below (by exact HB0.out) Nat.one_pos) htl hu)
  obtain ⟨A0, k0, hu0, hk01, hk02, hx0⟩ := hv.one
  subst hu0
  have HD := Lib.hid hD
  have HLG := Lib.hid hLg
  have hLlt := hLg.1.lt
  have HFB := Lib.hid hFb
  clear hD hLg hFb hv hx0 hu
  unfold ptrV strV at *
  have hern : ((er : Int) != 0) = true := by rcases recBytes_err hb with rfl | rfl <;> rfl
  have HQ : Hid (∀ f, logAppend s g r f = ((0, 0, er), s, g)) := fun f => by unfold logAppend; rw [hb]
  rw [hb] at HRB
  clear hb
  go_enter Tryd.func16, Tryd.ntmps16
  go_wp2_with fail
  refine HRB.out.mono ?_
  rintro e w1 ⟨v1, rfl, hb1, rfl⟩
  go_wp2_with fail
  go_ret3
  refine ⟨w.heap.size, Nat.le_refl _, ?_⟩
  rw [HQ.out]
  have hb := below_step HB0.out hb1
  exact ⟨rfl, (HD.out.below hb).keepF (fun _ _ _ => rfl) fun b hb => .inl hb, HLG.out.below hb, Kept.of_below hb⟩
set_option maxHeartbeats 1600000 in
theorem append_first (hD : DiskIn F w D s) (hLg : LogAt w L D g) (hLF : ¬ F L) (hFb : ∀ b, F b → b < w.heap.size) (ht : Tab w) (hFt : ¬ F 1) (r : Rec) (u : Value) (ok : Nat → Prop) (hv : Sl elU64 w ok u r.n) (htl : r.text.length ≤ 1000000000) (hu : ∀ n ∈ r.n, n < 2 ^ 64)
    (hat : g.at_ ≤ 1000000000000) (hlong : s.steps.length < 1000000000) (hmany : s.ids.length < 1000000000) {b : List UInt8} (hb : recBytes r = .ok b) (h0 : g.at_ = 0) :
    Calls Tryd.prog 16 #[ptrV L, .agg #[.int .i64 r.kind, u, strV r.text]] w (AppPost F w D L s g r) := by
  have HB0 : Hid (Below w.heap.size w (w.alloc (.cells #[.int .i64 r.kind, u, .string ⟨r.text.toArray⟩] 26))) := below_alloc (Below.refl _ _) _
  have HRB := Lib.hid (recordBytes_any r u ok (w.alloc (.cells #[.int .i64 r.kind, u, .string ⟨r.text.toArray⟩] 26)) (hv.below (by exact HB0.out) Nat.one_pos) htl hu)
  obtain ⟨A0, k0, hu0, hk01, hk02, hx0⟩ := hv.one
  subst hu0
  have HD := Lib.hid hD
  have HLG := Lib.hid hLg
  have hLlt := hLg.1.lt
  have HFB := Lib.hid hFb
  clear hD hLg hFb hv hx0 hu
  unfold ptrV strV at *
  have hbl := recBytes_len hb
  have hm := HLG.out.2.2
  have hw1 : IntKind.u64.wrap (b.length : Int) = (b.length : Int) := by rw [IntKind.wrap_u64]; omega
  have hw2 : IntKind.u64.wrap ((g.at_ : Int) + (b.length : Int)) = (g.at_ : Int) + (b.length : Int) := by rw [IntKind.wrap_u64]; omega
  have hw3 : IntKind.u64.wrap g.most = g.most := by rw [IntKind.wrap_u64]; omega
  have hd0 : decide (0 < g.at_) = false := decide_eq_false (by omega)
  have HQ : Hid (∀ f, logAppend s g r f = logPut (0, s, g) b) := fun f => by unfold logAppend; rw [hb]; simp only; rw [if_neg (by omega)]
  have H0 := Lib.hid h0
  clear h0
  rw [hb] at HRB
  have HBB := Lib.hid hb
  clear hb
  go_enter Tryd.func16, Tryd.ntmps16
  go_wp2_with fail
  refine HRB.out.mono ?_
  rintro e w1 ⟨v1, rfl, hb1, u1, rfl, ho1⟩
  have HB1 := Lib.hid (below_step HB0.out hb1)
  obtain ⟨A1, k1, hu1, hk11, hk12, hx1⟩ := ho1.sl.one
  subst hu1
  have HO1 : Hid (Sl elU8 w1 (fun x => w.heap.size ≤ x ∧ x < w1.heap.size) (.slice A1 b.length k1) b) := ho1.sl.weak (fun x hx hlt => ⟨by have hx : (w.alloc (.cells #[.int .i64 r.kind, .slice A0 r.n.length k0, .string ⟨r.text.toArray⟩] 26)).heap.size ≤ x := hx; rw [size_al] at hx; omega, hlt⟩) Nat.one_pos
  have hL1 := HLG.out.below HB1.out
  have l2 := hL1.1.at 2 _ rfl
  have l3 := hL1.1.at 3 _ rfl
  have HL1 := Lib.hid hL1
  clear hb1 ho1 hx1 hL1
  go_wp2_with fail
  refine reg_start (fun w' => w'.cell? ⟨L, 2, none⟩ = some (.int .u64 g.at_) ∧ w'.cell? ⟨L, 3, none⟩ = some (.int .i64 g.most)) (by kernel_rfl) ?_ (fun hHeld => ?_)
  · first | exact ⟨l2, l3⟩ | (dsimp only; go_keep)
  refine reg_take (v := ?v1) 0 rfl (by kernel_rfl) (by kernel_rfl) (by kernel_rfl) (by rfl) ?hy1 (by assumption) ?_
  case hy1 => (intro w hSw; (try dsimp only at hSw); go_simp; try with_reducible rfl)
  try simp only [Act.put, List.setIfInBounds_toArray, List.set_cons_zero, List.set_cons_succ]
  refine reg_take (v := ?v2) 1 rfl (by kernel_rfl) (by kernel_rfl) (by kernel_rfl) (by rfl) ?hy2 (by assumption) ?_
  case hy2 => (intro w hSw; (try dsimp only at hSw); go_simp; try with_reducible rfl)
  try simp only [Act.put, List.setIfInBounds_toArray, List.set_cons_zero, List.set_cons_succ]
  refine reg_take (v := ?v3) 2 rfl (by kernel_rfl) (by kernel_rfl) (by kernel_rfl) (by rfl) ?hy3 (by assumption) ?_
  case hy3 => (intro w hSw; (try dsimp only at hSw); go_simp; try with_reducible rfl)
  try simp only [Act.put, List.setIfInBounds_toArray, List.set_cons_zero, List.set_cons_succ]
  refine reg_take (v := ?v4) 3 rfl (by kernel_rfl) (by kernel_rfl) (by kernel_rfl) (by rfl) ?hy4 (by assumption) ?_
  case hy4 => (intro w hSw; (try dsimp only at hSw); go_simp; try with_reducible rfl)
  try simp only [Act.put, List.setIfInBounds_toArray, List.set_cons_zero, List.set_cons_succ]
  refine reg_take (v := ?v5) 4 rfl (by kernel_rfl) (by kernel_rfl) (by kernel_rfl) (by rfl) ?hy5 (by assumption) ?_
  case hy5 => (intro w hSw; (try dsimp only at hSw); go_simp; try with_reducible rfl)
  try simp only [Act.put, List.setIfInBounds_toArray, List.set_cons_zero, List.set_cons_succ]
  refine reg_take (v := ?v6) 5 rfl (by kernel_rfl) (by kernel_rfl) (by kernel_rfl) (by rfl) ?hy6 (by assumption) ?_
  case hy6 => (intro w hSw; (try dsimp only at hSw); go_simp; try with_reducible rfl)
  try simp only [Act.put, List.setIfInBounds_toArray, List.set_cons_zero, List.set_cons_succ]
  refine reg_skip 6 rfl (by kernel_rfl) (by kernel_rfl) (by kernel_rfl) (by rfl) (by assumption) ?_
  try simp only [Act.put, List.setIfInBounds_toArray, List.set_cons_zero, List.set_cons_succ]
  refine reg_skip 7 rfl (by kernel_rfl) (by kernel_rfl) (by kernel_rfl) (by rfl) (by assumption) ?_
  try simp only [Act.put, List.setIfInBounds_toArray, List.set_cons_zero, List.set_cons_succ]
  refine reg_skip 8 rfl (by kernel_rfl) (by kernel_rfl) (by kernel_rfl) (by rfl) (by assumption) ?_
  try simp only [Act.put, List.setIfInBounds_toArray, List.set_cons_zero, List.set_cons_succ]
  refine reg_skip 9 rfl (by kernel_rfl) (by kernel_rfl) (by kernel_rfl) (by rfl) (by assumption) ?_
  try simp only [Act.put, List.setIfInBounds_toArray, List.set_cons_zero, List.set_cons_succ]
  refine reg_skip 10 rfl (by kernel_rfl) (by kernel_rfl) (by kernel_rfl) (by rfl) (by assumption) ?_
  try simp only [Act.put, List.setIfInBounds_toArray, List.set_cons_zero, List.set_cons_succ]
  refine reg_skip 11 rfl (by kernel_rfl) (by kernel_rfl) (by kernel_rfl) (by rfl) (by assumption) ?_
  try simp only [Act.put, List.setIfInBounds_toArray, List.set_cons_zero, List.set_cons_succ]
  refine reg_skip 12 rfl (by kernel_rfl) (by kernel_rfl) (by kernel_rfl) (by rfl) (by assumption) ?_
  try simp only [Act.put, List.setIfInBounds_toArray, List.set_cons_zero, List.set_cons_succ]
  refine reg_skip 13 rfl (by kernel_rfl) (by kernel_rfl) (by kernel_rfl) (by rfl) (by assumption) ?_
  try simp only [Act.put, List.setIfInBounds_toArray, List.set_cons_zero, List.set_cons_succ]
  refine reg_skip 14 rfl (by kernel_rfl) (by kernel_rfl) (by kernel_rfl) (by rfl) (by assumption) ?_
  try simp only [Act.put, List.setIfInBounds_toArray, List.set_cons_zero, List.set_cons_succ]
  refine reg_skip 15 rfl (by kernel_rfl) (by kernel_rfl) (by kernel_rfl) (by rfl) (by assumption) ?_
  try simp only [Act.put, List.setIfInBounds_toArray, List.set_cons_zero, List.set_cons_succ]
  refine reg_skip 16 rfl (by kernel_rfl) (by kernel_rfl) (by kernel_rfl) (by rfl) (by assumption) ?_
  try simp only [Act.put, List.setIfInBounds_toArray, List.set_cons_zero, List.set_cons_succ]
  refine reg_skip 17 rfl (by kernel_rfl) (by kernel_rfl) (by kernel_rfl) (by rfl) (by assumption) ?_
  try simp only [Act.put, List.setIfInBounds_toArray, List.set_cons_zero, List.set_cons_succ]
  refine reg_skip 18 rfl (by kernel_rfl) (by kernel_rfl) (by kernel_rfl) (by rfl) (by assumption) ?_
  try simp only [Act.put, List.setIfInBounds_toArray, List.set_cons_zero, List.set_cons_succ]
  refine reg_skip 19 rfl (by kernel_rfl) (by kernel_rfl) (by kernel_rfl) (by rfl) (by assumption) ?_
  try simp only [Act.put, List.setIfInBounds_toArray, List.set_cons_zero, List.set_cons_succ]
  refine reg_take (v := ?v7) 20 rfl (by kernel_rfl) (by kernel_rfl) (by kernel_rfl) (by rfl) ?hy7 (by assumption) ?_
  case hy7 => (intro w hSw; (try dsimp only at hSw); go_simp; try with_reducible rfl)
  try simp only [Act.put, List.setIfInBounds_toArray, List.set_cons_zero, List.set_cons_succ]
  refine reg_done (by kernel_rfl) ?_
  clear hHeld l2 l3 hw1 hw2 hw3
  have HT2 : Hid (Tab (w1.drewN 1)) := ht.below (below_drewN HB1.out 1)
  have HD2 : Hid (DiskIn F (w1.drewN 1) D s) := HD.out.below (below_drewN HB1.out 1)
  have HL2 : Hid (LogAt (w1.drewN 1) L D g) := HL1.out.below (below_drewN (Below.refl _ _) 1)
  have HS2 : Hid (Sl elU8 (w1.drewN 1) (fun x => w.heap.size ≤ x ∧ x < w1.heap.size) (.slice A1 b.length k1) b) := HO1.out.heap rfl Nat.one_pos
  have HOK2 : Hid (∀ x, (w.heap.size ≤ x ∧ x < w1.heap.size) → ¬ F x) := fun x hx h => by have := HFB.out x h; omega
  have HLF2 : Hid (¬ F L) := hLF
  have HF2 : Hid (∃ f, w.heap.size ≤ f) := ⟨w.heap.size, Nat.le_refl _⟩
  have HFF : Hid (∀ x, F x → F x ∨ w.heap.size ≤ x) := fun x h => .inl h
  have HKF : Hid (∀ x, x < w.heap.size → F x → F x ∨ x = L) := fun x _ h => .inl h
  have HK2 : Hid (Kept (fun x => F x ∨ x = L) w (w1.drewN 1)) := Kept.of_below (below_drewN HB1.out 1)
  have HZ0 : Hid (w.heap.size ≤ (w1.drewN 1).heap.size) := HB1.out.size
  obtain ⟨w2, hw2e⟩ : ∃ w2, w2 = w1.drewN 1 := ⟨_, rfl⟩
  have hwd : w1.drew = w2 := hw2e.symm
  rw [← hw2e] at HT2 HD2 HL2 HS2 HK2 HZ0
  rw [hwd]
  clear hw2e hwd
  have hseg2 := HL2.out.2.1
  have HO2 := Lib.hid (segOf_any g.seg hseg2 w2 HT2.out)
  have p1 := HL2.out.1.at 1 _ rfl
  go_wp2_with fail
  refine HO2.out.mono ?_
  rintro e w3 ⟨v3, rfl, hb3, rfl⟩
  have p0 := (HL2.out.below hb3).1.at 0 _ rfl
  have HL3 := Lib.hid (HL2.out.below hb3)
  have HB3 := Lib.hid hb3
  have HDA := Lib.hid (appendI (HD2.out.below hb3) (segName g.seg) (.slice A1 b.length k1) b _ (HS2.out.below hb3 Nat.one_pos) HOK2.out (by omega))
  clear hb3 p1
  go_wp2_with fail
  refine HDA.out.mono ?_
  intro e w4 hp4
  obtain ⟨rfl, hD4, hK4⟩ := hp4.disk
  have hL4 := HL3.out.kept hK4 HLF2.out
  have q1 := hL4.1.at 1 _ rfl
  have q2 := hL4.1.at 2 _ rfl
  have q4 := hL4.1.at 4 _ rfl
  have qf2 := hL4.1.frozen 2
  have qf4 := hL4.1.frozen 4
  have HD4 := Lib.hid hD4
  have HK4 := Lib.hid hK4
  have HL4 := Lib.hid hL4
  have HZ : Hid (w2.heap.size ≤ w3.heap.size ∧ w3.heap.size ≤ w4.heap.size) := ⟨HB3.out.size, hK4.size⟩
  clear hp4 hD4 hK4 hL4 p0
  rcases hc : (s.append (segName g.seg) b).1 == 0 with _ | _
  · have hn : ((s.append (segName g.seg) b).1 != 0) = true := by rw [bne, hc]; rfl
    have HC := Lib.hid hc
    clear hc
    go_wp2_with fail
    go_ret3
    have hc0 : ¬ (s.append (segName g.seg) b).1 = 0 := by simpa using HC.out
    have hq : logPut (0, s, g) b = ((0, 0, (s.append (segName g.seg) b).1), (s.append (segName g.seg) b).2, g) := by unfold logPut; rw [if_neg (by simp), if_neg hc0]
    refine ⟨w.heap.size, Nat.le_refl _, ?_⟩
    rw [HQ.out, hq]
    refine ⟨rfl, HD4.out.keepF (fun _ _ _ => rfl) fun x hx => ?_, HL4.out, ?_⟩
    · rcases hx with hx | hx
      · exact HFF.out x hx
      · exact .inr (by have := HZ.out; have := HZ0.out; omega)
    · exact (HK2.out.trans (Kept.of_below (F := F) HB3.out) fun x hx h => HKF.out x hx h).trans HK4.out fun x hx h => HKF.out x hx h
  · have hn : ((s.append (segName g.seg) b).1 != 0) = false := by rw [bne, hc]; rfl
    have HC := Lib.hid hc
    clear hc
    go_wp2_with fail
    go_region
    have hmin : min (g.dirty : Int) (g.seg : Int) = ((min g.dirty g.seg : Nat) : Int) := by omega
    rw [hmin]
    clear hmin
    obtain ⟨W, hW⟩ : ∃ W, W = (w4.setCell ⟨L, 2, none⟩ (.int .u64 ((g.at_ : Int) + (b.length : Int)))).setCell ⟨L, 4, none⟩ (.int .u64 ((min g.dirty g.seg : Nat) : Int)) := ⟨_, rfl⟩
    rw [← hW]
    have hLW : LogAt W.drew L D { g with at_ := g.at_ + b.length, dirty := min g.dirty g.seg } := by
      refine HL4.out.set ?_ hseg2 rfl
      have hB := (HL4.out.1.set 2 (.int .u64 ((g.at_ : Int) + (b.length : Int)))).set 4 (.int .u64 ((min g.dirty g.seg : Nat) : Int))
      rw [hW]
      have e : ((g.at_ : Int) + (b.length : Int)) = ((g.at_ + b.length : Nat) : Int) := by omega
      rw [e] at hB ⊢
      exact hB
    have HW := Lib.hid hW
    have HLW := Lib.hid hLW
    have r1 := hLW.1.at 1 _ rfl
    clear hW hLW
    go_wp2_with fail
    go_ret3
    have hc0 : (s.append (segName g.seg) b).1 = 0 := by simpa using HC.out
    have hq : logPut (0, s, g) b = ((g.seg, g.at_, 0), (s.append (segName g.seg) b).2, { g with at_ := g.at_ + b.length, dirty := min g.dirty g.seg }) := by unfold logPut; rw [if_neg (by simp), if_pos hc0]
    have hkeep : ∀ x, x ≠ L → W.drew.heap[x]? = w4.heap[x]? := fun x h1 => by
      rw [HW.out]
      exact (Below.heap_setCell _ _ _ x h1).trans (Below.heap_setCell w4 _ _ x h1)
    have hs4 : W.drew.heap.size = w4.heap.size := by rw [HW.out]; simp [World.setCell, World.drew]
    have ho4 : W.drew.os = w4.os ∧ W.drew.tape = w4.tape ∧ W.drew.output = w4.output := by rw [HW.out]; exact ⟨rfl, rfl, rfl⟩
    refine ⟨w.heap.size, Nat.le_refl _, ?_⟩
    rw [HQ.out, hq]
    refine ⟨rfl, HD4.out.keepF (fun x hx _ => hkeep x fun e => ?_) fun x hx => ?_, HLW.out, ?_⟩
    · subst e
      rcases hx with hx | hx
      · exact HLF2.out hx
      · have := HL3.out.1.lt; omega
    · rcases hx with hx | hx
      · exact HFF.out x hx
      · exact .inr (by have := HZ.out; have := HZ0.out; omega)
    · refine ((HK2.out.trans (Kept.of_below (F := F) HB3.out) fun x hx h => HKF.out x hx h).trans HK4.out fun x hx h => HKF.out x hx h).trans (c := W.drew) (G := fun x => x = L) ⟨ho4.1, ho4.2.1, ho4.2.2, by omega, fun x _ hn => hkeep x hn⟩ fun x _ e => .inr e

set_option maxHeartbeats 1600000 in
theorem append_stay (hD : DiskIn F w D s) (hLg : LogAt w L D g) (hLF : ¬ F L) (hFb : ∀ b, F b → b < w.heap.size) (ht : Tab w) (hFt : ¬ F 1) (r : Rec) (u : Value) (ok : Nat → Prop) (hv : Sl elU64 w ok u r.n) (htl : r.text.length ≤ 1000000000) (hu : ∀ n ∈ r.n, n < 2 ^ 64)
    (hat : g.at_ ≤ 1000000000000) (hlong : s.steps.length < 1000000000) (hmany : s.ids.length < 1000000000) {b : List UInt8} (hb : recBytes r = .ok b) (h0 : 0 < g.at_) (h1 : ¬ g.most < (g.at_ : Int) + (b.length : Int)) :
    Calls Tryd.prog 16 #[ptrV L, .agg #[.int .i64 r.kind, u, strV r.text]] w (AppPost F w D L s g r) := by
  have HB0 : Hid (Below w.heap.size w (w.alloc (.cells #[.int .i64 r.kind, u, .string ⟨r.text.toArray⟩] 26))) := below_alloc (Below.refl _ _) _
  have HRB := Lib.hid (recordBytes_any r u ok (w.alloc (.cells #[.int .i64 r.kind, u, .string ⟨r.text.toArray⟩] 26)) (hv.below (by exact HB0.out) Nat.one_pos) htl hu)
  obtain ⟨A0, k0, hu0, hk01, hk02, hx0⟩ := hv.one
  subst hu0
  have HD := Lib.hid hD
  have HLG := Lib.hid hLg
  have hLlt := hLg.1.lt
  have HFB := Lib.hid hFb
  clear hD hLg hFb hv hx0 hu
  unfold ptrV strV at *
  have hbl := recBytes_len hb
  have hm := HLG.out.2.2
  have hw1 : IntKind.u64.wrap (b.length : Int) = (b.length : Int) := by rw [IntKind.wrap_u64]; omega
  have hw2 : IntKind.u64.wrap ((g.at_ : Int) + (b.length : Int)) = (g.at_ : Int) + (b.length : Int) := by rw [IntKind.wrap_u64]; omega
  have hw3 : IntKind.u64.wrap g.most = g.most := by rw [IntKind.wrap_u64]; omega
  have hd0 : decide (0 < g.at_) = true := decide_eq_true h0
  have hd1 : decide (g.most < (g.at_ : Int) + (b.length : Int)) = false := decide_eq_false h1
  have HQ : Hid (∀ f, logAppend s g r f = logPut (0, s, g) b) := fun f => by unfold logAppend; rw [hb]; simp only; rw [if_neg (fun h => h1 h.2)]
  clear h0 h1
  rw [hb] at HRB
  have HBB := Lib.hid hb
  clear hb
  go_enter Tryd.func16, Tryd.ntmps16
  go_wp2_with fail
  refine HRB.out.mono ?_
  rintro e w1 ⟨v1, rfl, hb1, u1, rfl, ho1⟩
  have HB1 := Lib.hid (below_step HB0.out hb1)
  obtain ⟨A1, k1, hu1, hk11, hk12, hx1⟩ := ho1.sl.one
  subst hu1
  have HO1 : Hid (Sl elU8 w1 (fun x => w.heap.size ≤ x ∧ x < w1.heap.size) (.slice A1 b.length k1) b) := ho1.sl.weak (fun x hx hlt => ⟨by have hx : (w.alloc (.cells #[.int .i64 r.kind, .slice A0 r.n.length k0, .string ⟨r.text.toArray⟩] 26)).heap.size ≤ x := hx; rw [size_al] at hx; omega, hlt⟩) Nat.one_pos
  have hL1 := HLG.out.below HB1.out
  have l2 := hL1.1.at 2 _ rfl
  have l3 := hL1.1.at 3 _ rfl
  have HL1 := Lib.hid hL1
  clear hb1 ho1 hx1 hL1
  go_wp2_with fail
  refine reg_start (fun w' => w'.cell? ⟨L, 2, none⟩ = some (.int .u64 g.at_) ∧ w'.cell? ⟨L, 3, none⟩ = some (.int .i64 g.most)) (by kernel_rfl) ?_ (fun hHeld => ?_)
  · first | exact ⟨l2, l3⟩ | (dsimp only; go_keep)
  refine reg_take (v := ?v8) 0 rfl (by kernel_rfl) (by kernel_rfl) (by kernel_rfl) (by rfl) ?hy8 (by assumption) ?_
  case hy8 => (intro w hSw; (try dsimp only at hSw); go_simp; try with_reducible rfl)
  try simp only [Act.put, List.setIfInBounds_toArray, List.set_cons_zero, List.set_cons_succ]
  refine reg_take (v := ?v9) 1 rfl (by kernel_rfl) (by kernel_rfl) (by kernel_rfl) (by rfl) ?hy9 (by assumption) ?_
  case hy9 => (intro w hSw; (try dsimp only at hSw); go_simp; try with_reducible rfl)
  try simp only [Act.put, List.setIfInBounds_toArray, List.set_cons_zero, List.set_cons_succ]
  refine reg_take (v := ?v10) 2 rfl (by kernel_rfl) (by kernel_rfl) (by kernel_rfl) (by rfl) ?hy10 (by assumption) ?_
  case hy10 => (intro w hSw; (try dsimp only at hSw); go_simp; try with_reducible rfl)
  try simp only [Act.put, List.setIfInBounds_toArray, List.set_cons_zero, List.set_cons_succ]
  refine reg_take (v := ?v11) 3 rfl (by kernel_rfl) (by kernel_rfl) (by kernel_rfl) (by rfl) ?hy11 (by assumption) ?_
  case hy11 => (intro w hSw; (try dsimp only at hSw); go_simp; try with_reducible rfl)
  try simp only [Act.put, List.setIfInBounds_toArray, List.set_cons_zero, List.set_cons_succ]
  refine reg_take (v := ?v12) 4 rfl (by kernel_rfl) (by kernel_rfl) (by kernel_rfl) (by rfl) ?hy12 (by assumption) ?_
  case hy12 => (intro w hSw; (try dsimp only at hSw); go_simp; try with_reducible rfl)
  try simp only [Act.put, List.setIfInBounds_toArray, List.set_cons_zero, List.set_cons_succ]
  refine reg_take (v := ?v13) 5 rfl (by kernel_rfl) (by kernel_rfl) (by kernel_rfl) (by rfl) ?hy13 (by assumption) ?_
  case hy13 => (intro w hSw; (try dsimp only at hSw); go_simp; try with_reducible rfl)
  try simp only [Act.put, List.setIfInBounds_toArray, List.set_cons_zero, List.set_cons_succ]
  refine reg_take (v := ?v14) 6 rfl (by kernel_rfl) (by kernel_rfl) (by kernel_rfl) (by rfl) ?hy14 (by assumption) ?_
  case hy14 => (intro w hSw; (try dsimp only at hSw); go_simp; try with_reducible rfl)
  try simp only [Act.put, List.setIfInBounds_toArray, List.set_cons_zero, List.set_cons_succ]
  refine reg_take (v := ?v15) 7 rfl (by kernel_rfl) (by kernel_rfl) (by kernel_rfl) (by rfl) ?hy15 (by assumption) ?_
  case hy15 => (intro w hSw; (try dsimp only at hSw); go_simp; try with_reducible rfl)
  try simp only [Act.put, List.setIfInBounds_toArray, List.set_cons_zero, List.set_cons_succ]
  refine reg_take (v := ?v16) 8 rfl (by kernel_rfl) (by kernel_rfl) (by kernel_rfl) (by rfl) ?hy16 (by assumption) ?_
  case hy16 => (intro w hSw; (try dsimp only at hSw); go_simp; try with_reducible rfl)
  try simp only [Act.put, List.setIfInBounds_toArray, List.set_cons_zero, List.set_cons_succ]
  refine reg_take (v := ?v17) 9 rfl (by kernel_rfl) (by kernel_rfl) (by kernel_rfl) (by rfl) ?hy17 (by assumption) ?_
  case hy17 => (intro w hSw; (try dsimp only at hSw); go_simp; try with_reducible rfl)
  try simp only [Act.put, List.setIfInBounds_toArray, List.set_cons_zero, List.set_cons_succ]
  refine reg_take (v := ?v18) 10 rfl (by kernel_rfl) (by kernel_rfl) (by kernel_rfl) (by rfl) ?hy18 (by assumption) ?_
  case hy18 => (intro w hSw; (try dsimp only at hSw); go_simp; try with_reducible rfl)
  try simp only [Act.put, List.setIfInBounds_toArray, List.set_cons_zero, List.set_cons_succ]
  refine reg_take (v := ?v19) 11 rfl (by kernel_rfl) (by kernel_rfl) (by kernel_rfl) (by rfl) ?hy19 (by assumption) ?_
  case hy19 => (intro w hSw; (try dsimp only at hSw); go_simp; try with_reducible rfl)
  try simp only [Act.put, List.setIfInBounds_toArray, List.set_cons_zero, List.set_cons_succ]
  refine reg_take (v := ?v20) 12 rfl (by kernel_rfl) (by kernel_rfl) (by kernel_rfl) (by rfl) ?hy20 (by assumption) ?_
  case hy20 => (intro w hSw; (try dsimp only at hSw); go_simp; try with_reducible rfl)
  try simp only [Act.put, List.setIfInBounds_toArray, List.set_cons_zero, List.set_cons_succ]
  refine reg_take (v := ?v21) 13 rfl (by kernel_rfl) (by kernel_rfl) (by kernel_rfl) (by rfl) ?hy21 (by assumption) ?_
  case hy21 => (intro w hSw; (try dsimp only at hSw); go_simp; try with_reducible rfl)
  try simp only [Act.put, List.setIfInBounds_toArray, List.set_cons_zero, List.set_cons_succ]
  refine reg_take (v := ?v22) 14 rfl (by kernel_rfl) (by kernel_rfl) (by kernel_rfl) (by rfl) ?hy22 (by assumption) ?_
  case hy22 => (intro w hSw; (try dsimp only at hSw); go_simp; try with_reducible rfl)
  try simp only [Act.put, List.setIfInBounds_toArray, List.set_cons_zero, List.set_cons_succ]
  refine reg_take (v := ?v23) 15 rfl (by kernel_rfl) (by kernel_rfl) (by kernel_rfl) (by rfl) ?hy23 (by assumption) ?_
  case hy23 => (intro w hSw; (try dsimp only at hSw); go_simp; try with_reducible rfl)
  try simp only [Act.put, List.setIfInBounds_toArray, List.set_cons_zero, List.set_cons_succ]
  refine reg_take (v := ?v24) 16 rfl (by kernel_rfl) (by kernel_rfl) (by kernel_rfl) (by rfl) ?hy24 (by assumption) ?_
  case hy24 => (intro w hSw; (try dsimp only at hSw); go_simp; try with_reducible rfl)
  try simp only [Act.put, List.setIfInBounds_toArray, List.set_cons_zero, List.set_cons_succ]
  refine reg_take (v := ?v25) 17 rfl (by kernel_rfl) (by kernel_rfl) (by kernel_rfl) (by rfl) ?hy25 (by assumption) ?_
  case hy25 => (intro w hSw; (try dsimp only at hSw); go_simp; try with_reducible rfl)
  try simp only [Act.put, List.setIfInBounds_toArray, List.set_cons_zero, List.set_cons_succ]
  refine reg_take (v := ?v26) 18 rfl (by kernel_rfl) (by kernel_rfl) (by kernel_rfl) (by rfl) ?hy26 (by assumption) ?_
  case hy26 => (intro w hSw; (try dsimp only at hSw); go_simp; try with_reducible rfl)
  try simp only [Act.put, List.setIfInBounds_toArray, List.set_cons_zero, List.set_cons_succ]
  refine reg_take (v := ?v27) 19 rfl (by kernel_rfl) (by kernel_rfl) (by kernel_rfl) (by rfl) ?hy27 (by assumption) ?_
  case hy27 => (intro w hSw; (try dsimp only at hSw); go_simp; try with_reducible rfl)
  try simp only [Act.put, List.setIfInBounds_toArray, List.set_cons_zero, List.set_cons_succ]
  refine reg_take (v := ?v28) 20 rfl (by kernel_rfl) (by kernel_rfl) (by kernel_rfl) (by rfl) ?hy28 (by assumption) ?_
  case hy28 => (intro w hSw; (try dsimp only at hSw); go_simp; try with_reducible rfl)
  try simp only [Act.put, List.setIfInBounds_toArray, List.set_cons_zero, List.set_cons_succ]
  refine reg_done (by kernel_rfl) ?_
  clear hHeld l2 l3 hw1 hw2 hw3
  have HT2 : Hid (Tab (w1.drewN 1)) := ht.below (below_drewN HB1.out 1)
  have HD2 : Hid (DiskIn F (w1.drewN 1) D s) := HD.out.below (below_drewN HB1.out 1)
  have HL2 : Hid (LogAt (w1.drewN 1) L D g) := HL1.out.below (below_drewN (Below.refl _ _) 1)
  have HS2 : Hid (Sl elU8 (w1.drewN 1) (fun x => w.heap.size ≤ x ∧ x < w1.heap.size) (.slice A1 b.length k1) b) := HO1.out.heap rfl Nat.one_pos
  have HOK2 : Hid (∀ x, (w.heap.size ≤ x ∧ x < w1.heap.size) → ¬ F x) := fun x hx h => by have := HFB.out x h; omega
  have HLF2 : Hid (¬ F L) := hLF
  have HF2 : Hid (∃ f, w.heap.size ≤ f) := ⟨w.heap.size, Nat.le_refl _⟩
  have HFF : Hid (∀ x, F x → F x ∨ w.heap.size ≤ x) := fun x h => .inl h
  have HKF : Hid (∀ x, x < w.heap.size → F x → F x ∨ x = L) := fun x _ h => .inl h
  have HK2 : Hid (Kept (fun x => F x ∨ x = L) w (w1.drewN 1)) := Kept.of_below (below_drewN HB1.out 1)
  have HZ0 : Hid (w.heap.size ≤ (w1.drewN 1).heap.size) := HB1.out.size
  obtain ⟨w2, hw2e⟩ : ∃ w2, w2 = w1.drewN 1 := ⟨_, rfl⟩
  have hwd : w1.drew = w2 := hw2e.symm
  rw [← hw2e] at HT2 HD2 HL2 HS2 HK2 HZ0
  rw [hwd]
  clear hw2e hwd
  have hseg2 := HL2.out.2.1
  have HO2 := Lib.hid (segOf_any g.seg hseg2 w2 HT2.out)
  have p1 := HL2.out.1.at 1 _ rfl
  go_wp2_with fail
  refine HO2.out.mono ?_
  rintro e w3 ⟨v3, rfl, hb3, rfl⟩
  have p0 := (HL2.out.below hb3).1.at 0 _ rfl
  have HL3 := Lib.hid (HL2.out.below hb3)
  have HB3 := Lib.hid hb3
  have HDA := Lib.hid (appendI (HD2.out.below hb3) (segName g.seg) (.slice A1 b.length k1) b _ (HS2.out.below hb3 Nat.one_pos) HOK2.out (by omega))
  clear hb3 p1
  go_wp2_with fail
  refine HDA.out.mono ?_
  intro e w4 hp4
  obtain ⟨rfl, hD4, hK4⟩ := hp4.disk
  have hL4 := HL3.out.kept hK4 HLF2.out
  have q1 := hL4.1.at 1 _ rfl
  have q2 := hL4.1.at 2 _ rfl
  have q4 := hL4.1.at 4 _ rfl
  have qf2 := hL4.1.frozen 2
  have qf4 := hL4.1.frozen 4
  have HD4 := Lib.hid hD4
  have HK4 := Lib.hid hK4
  have HL4 := Lib.hid hL4
  have HZ : Hid (w2.heap.size ≤ w3.heap.size ∧ w3.heap.size ≤ w4.heap.size) := ⟨HB3.out.size, hK4.size⟩
  clear hp4 hD4 hK4 hL4 p0
  rcases hc : (s.append (segName g.seg) b).1 == 0 with _ | _
  · have hn : ((s.append (segName g.seg) b).1 != 0) = true := by rw [bne, hc]; rfl
    have HC := Lib.hid hc
    clear hc
    go_wp2_with fail
    go_ret3
    have hc0 : ¬ (s.append (segName g.seg) b).1 = 0 := by simpa using HC.out
    have hq : logPut (0, s, g) b = ((0, 0, (s.append (segName g.seg) b).1), (s.append (segName g.seg) b).2, g) := by unfold logPut; rw [if_neg (by simp), if_neg hc0]
    refine ⟨w.heap.size, Nat.le_refl _, ?_⟩
    rw [HQ.out, hq]
    refine ⟨rfl, HD4.out.keepF (fun _ _ _ => rfl) fun x hx => ?_, HL4.out, ?_⟩
    · rcases hx with hx | hx
      · exact HFF.out x hx
      · exact .inr (by have := HZ.out; have := HZ0.out; omega)
    · exact (HK2.out.trans (Kept.of_below (F := F) HB3.out) fun x hx h => HKF.out x hx h).trans HK4.out fun x hx h => HKF.out x hx h
  · have hn : ((s.append (segName g.seg) b).1 != 0) = false := by rw [bne, hc]; rfl
    have HC := Lib.hid hc
    clear hc
    go_wp2_with fail
    go_region
    have hmin : min (g.dirty : Int) (g.seg : Int) = ((min g.dirty g.seg : Nat) : Int) := by omega
    rw [hmin]
    clear hmin
    obtain ⟨W, hW⟩ : ∃ W, W = (w4.setCell ⟨L, 2, none⟩ (.int .u64 ((g.at_ : Int) + (b.length : Int)))).setCell ⟨L, 4, none⟩ (.int .u64 ((min g.dirty g.seg : Nat) : Int)) := ⟨_, rfl⟩
    rw [← hW]
    have hLW : LogAt W.drew L D { g with at_ := g.at_ + b.length, dirty := min g.dirty g.seg } := by
      refine HL4.out.set ?_ hseg2 rfl
      have hB := (HL4.out.1.set 2 (.int .u64 ((g.at_ : Int) + (b.length : Int)))).set 4 (.int .u64 ((min g.dirty g.seg : Nat) : Int))
      rw [hW]
      have e : ((g.at_ : Int) + (b.length : Int)) = ((g.at_ + b.length : Nat) : Int) := by omega
      rw [e] at hB ⊢
      exact hB
    have HW := Lib.hid hW
    have HLW := Lib.hid hLW
    have r1 := hLW.1.at 1 _ rfl
    clear hW hLW
    go_wp2_with fail
    go_ret3
    have hc0 : (s.append (segName g.seg) b).1 = 0 := by simpa using HC.out
    have hq : logPut (0, s, g) b = ((g.seg, g.at_, 0), (s.append (segName g.seg) b).2, { g with at_ := g.at_ + b.length, dirty := min g.dirty g.seg }) := by unfold logPut; rw [if_neg (by simp), if_pos hc0]
    have hkeep : ∀ x, x ≠ L → W.drew.heap[x]? = w4.heap[x]? := fun x h1 => by
      rw [HW.out]
      exact (Below.heap_setCell _ _ _ x h1).trans (Below.heap_setCell w4 _ _ x h1)
    have hs4 : W.drew.heap.size = w4.heap.size := by rw [HW.out]; simp [World.setCell, World.drew]
    have ho4 : W.drew.os = w4.os ∧ W.drew.tape = w4.tape ∧ W.drew.output = w4.output := by rw [HW.out]; exact ⟨rfl, rfl, rfl⟩
    refine ⟨w.heap.size, Nat.le_refl _, ?_⟩
    rw [HQ.out, hq]
    refine ⟨rfl, HD4.out.keepF (fun x hx _ => hkeep x fun e => ?_) fun x hx => ?_, HLW.out, ?_⟩
    · subst e
      rcases hx with hx | hx
      · exact HLF2.out hx
      · have := HL3.out.1.lt; omega
    · rcases hx with hx | hx
      · exact HFF.out x hx
      · exact .inr (by have := HZ.out; have := HZ0.out; omega)
    · refine ((HK2.out.trans (Kept.of_below (F := F) HB3.out) fun x hx h => HKF.out x hx h).trans HK4.out fun x hx h => HKF.out x hx h).trans (c := W.drew) (G := fun x => x = L) ⟨ho4.1, ho4.2.1, ho4.2.2, by omega, fun x _ hn => hkeep x hn⟩ fun x _ e => .inr e

end

end Go.Proofs.YtocmnhjgknaocaaDoor
