import Derived.Test.YtocmnhjgknaocaaDoorRec2
import Derived.Lib.AppendStr
set_option linter.unusedVariables false
set_option linter.unusedSimpArgs false
set_option maxRecDepth 100000
namespace Go.Proofs.YtocmnhjgknaocaaDoor
open Go.RowKit Tb

theorem strCells_of (l : List UInt8) : Lib.strCells ⟨l.toArray⟩ = l.map fun b => Value.int .u8 b.toNat := by simp [Lib.strCells]

/-- append(bytes, string...) -/
theorem step_app_str {ops : Array Oper} {o : Oper} {a : Act} {Q : Exit → Act → World → Prop} {W : World} {K : Act → World → Prop} {E : Prop} (base : Nat) (hgd : o.guard = none) (s x : Operand)
    (ho : o.op = .call { callee := .builtin .append, args := #[s, x], argTypes := #[67, 9] })
    (v : Value) (xs ys : List UInt8) (hs : a.eval s = v) (hx : a.eval x = .string ⟨ys.toArray⟩) (HO : OwnB W base v xs) (hbase : base ≤ W.heap.size) (hl : xs.length + ys.length ≤ 1000000000000)
    (h : ∀ v1 w1, OwnB w1 base v1 (xs ++ ys) → W.grownBy w1 v.ownBlock → K (a.put o.dst v1) w1) :
    if Region.wanted o (yielded ops a.tmps) = true then o.wp Tryd.prog a W K Q else E := by
  rw [if_pos (by simp [Region.wanted, hgd])]
  obtain ⟨i0, hi, hz0, hz1, hz2⟩ := info_parts infoU8
  obtain ⟨v', w', hr, h2, h3, h4⟩ := Lib.run_append_own_string (P := Tryd.prog) W base 67 9 o.type 5 i0 Tryd.underlying67 Tryd.underlying9 hi hz0 hz1 hz2 v xs.length _ HO ⟨ys.toArray⟩ (by unfold maxLen; simp [ByteArray.size]; omega) (by simp [ByteArray.size]; omega) hbase
  unfold Oper.wp execOp
  simp only [ho, resolve, invoke, builtin, Sem.run_bind, Sem.run_pure, Result.andThen_ok, List.map_toArray, List.map_cons, List.map_nil, hs, hx, hr]
  refine h v' w' ?_ h3
  rw [strCells_of] at h2
  unfold OwnB
  simpa [ByteArray.size] using h2

set_option maxHeartbeats 1600000 in
theorem recordBytes_any (r : Rec) (u : Value) (ok : Nat → Prop) (w : World) (hv : Sl elU64 w ok u r.n) (hlen : r.text.length ≤ 1000000000) (hu : ∀ n ∈ r.n, n < 2 ^ 64) :
    Calls Tryd.prog 28 #[.agg #[.int .i64 r.kind, u, strV r.text]] w (RetB w (ResB w.heap.size (recBytes r))) := by
  have hv0 := hv
  obtain ⟨A, c, hu', hc1, hc2, hc⟩ := hv.one
  subst hu'
  have HV := Lib.hid hv0
  clear hv hc hv0
  have hbel0 : Below w.heap.size w (w.alloc (.cells #[.int .i64 r.kind, .slice A r.n.length c, .string ⟨r.text.toArray⟩] 26)) := below_alloc (Below.refl _ _) _
  have hbx : Blk (w.alloc (.cells #[.int .i64 r.kind, .slice A r.n.length c, .string ⟨r.text.toArray⟩] 26)) w.heap.size [.int .i64 r.kind, .slice A r.n.length c, .string ⟨r.text.toArray⟩] 26 := Blk.new w _ _
  have HR : Hid (∀ W : World, Sl elU64 W ok (.slice A r.n.length c) r.n → Calls Tryd.prog 12 #[.agg #[.int .i64 r.kind, .slice A r.n.length c, .string ⟨r.text.toArray⟩]] W (RetB W fun v _ => v = .bool (recRight r))) := fun W h => right_any r _ ok W h hlen
  show Calls Tryd.prog 28 #[.agg #[.int .i64 r.kind, .slice A r.n.length c, .string ⟨r.text.toArray⟩]] w (RetB w (ResB w.heap.size (recBytes r)))
  rcases hr : recRight r with _ | _
  · have hq : recBytes r = .error 1 := by unfold recBytes; rw [hr]; rfl
    rw [hq]
    rw [hr] at HR
    go_enter Tryd.func28, Tryd.ntmps28
    go_wp2_with (go_at_call 12; refine (HR.out _ (HV.out.below (by exact hbel0) Nat.one_pos)).mono ?_; rintro e w1 ⟨v1, rfl, hb1, rfl⟩)
    go_ret2
    exact ⟨_, rfl, below_step hbel0 hb1, rfl⟩
  · have hq : recBytes r = frmBytes (recFrm r) := by unfold recBytes; rw [hr]; rfl
    rw [hq]
    rw [hr] at HR
    obtain ⟨⟨hk1, hk2⟩, hnl, hft⟩ := (recRight_iff r).1 hr
    have htl := fits_le hft
    have hnl10 : r.n.length ≤ 10 := by rw [hnl]; exact numbersOf_le _
    have hvl := vall_length_le r.n hu
    have HU := Lib.hid hu
    obtain ⟨k8, hk8⟩ : ∃ k8 : UInt8, r.kind = (k8.toNat : Int) := ⟨UInt8.ofNat r.kind.toNat, by rw [UInt8.toNat_ofNat']; omega⟩
    have hfr : recFrm r = ⟨k8, vall r.n ++ r.text⟩ := by
      unfold recFrm
      congr 1
      rw [hk8]
      simp
    rw [hfr]
    rw [hk8] at HR hbel0 hbx ⊢
    have hk8l : IntKind.u8.wrap (k8.toNat : Int) = (k8.toNat : Int) := by have := k8.toNat_lt; rw [IntKind.wrap_u8]; omega
    have hfb : frmBytes ⟨k8, vall r.n ++ r.text⟩ = .ok (frmRaw ⟨k8, vall r.n ++ r.text⟩) := by
      unfold frmBytes
      rw [if_neg (by rw [List.length_append]; omega)]
    rw [hfb]
    have HFB := Lib.hid hfb
    clear hfb
    have HL : Hid ((vall r.n).length ≤ 100 ∧ r.text.length ≤ 64 ∧ r.n.length ≤ 10) := ⟨by omega, htl, hnl10⟩
    clear hq hnl hft htl hnl10 hvl hu hfr hk1 hk2 hk8
    go_enter Tryd.func28, Tryd.ntmps28
    go_wp2_with (go_at_call 12; refine (HR.out _ (HV.out.below (by exact hbel0) Nat.one_pos)).mono ?_; rintro e w1 ⟨v1, rfl, hb1, rfl⟩)
    have hbx1 := hbx.belowS hb1
    have hbel1 := below_step hbel0 hb1
    have c0 := hbx1.at 0 _ rfl
    have c1 := hbx1.at 1 _ rfl
    have c2 := hbx1.at 2 _ rfl
    refine reg_start (fun w' => w'.cell? ⟨w.heap.size, 0, none⟩ = some (.int .i64 k8.toNat) ∧ w'.cell? ⟨w.heap.size, 1, none⟩ = some (.slice A r.n.length c) ∧ w'.cell? ⟨w.heap.size, 2, none⟩ = some (.string ⟨r.text.toArray⟩)) (by kernel_rfl) ?_ (fun hHeld => ?_)
    · first | exact ⟨c0, c1, c2⟩ | (dsimp only; go_keep)
    refine reg_take (v := ?v1) 0 rfl (by kernel_rfl) (by kernel_rfl) (by kernel_rfl) (by rfl) ?hy1 (by assumption) ?_
    case hy1 => (intro w hSw; (try dsimp only at hSw); go_simp; try with_reducible rfl)
    try simp only [Act.put, List.setIfInBounds_toArray, List.set_cons_zero, List.set_cons_succ]
    refine reg_take (v := ?v2) 1 rfl (by kernel_rfl) (by kernel_rfl) (by kernel_rfl) (by rfl) ?hy2 (by assumption) ?_
    case hy2 => (intro w hSw; (try dsimp only at hSw); go_simp; try with_reducible rfl)
    try simp only [Act.put, List.setIfInBounds_toArray, List.set_cons_zero, List.set_cons_succ]
    refine reg_take (v := ?v3) 2 rfl (by kernel_rfl) (by kernel_rfl) (by kernel_rfl) (by rfl) ?hy3 (by assumption) ?_
    case hy3 => (intro w hSw; (try dsimp only at hSw); go_simp; try with_reducible rfl)
    try simp only [Act.put, List.setIfInBounds_toArray, List.set_cons_zero, List.set_cons_succ]
    refine reg_take (v := ?v4) 3 rfl (by kernel_rfl) (by kernel_rfl) (by kernel_rfl) (by rfl) ?hy4 (by assumption) ?_
    case hy4 => (intro w hSw; (try dsimp only at hSw); go_simp; try with_reducible rfl)
    try simp only [Act.put, List.setIfInBounds_toArray, List.set_cons_zero, List.set_cons_succ]
    refine reg_take (v := ?v5) 4 rfl (by kernel_rfl) (by kernel_rfl) (by kernel_rfl) (by rfl) ?hy5 (by assumption) ?_
    case hy5 => (intro w hSw; (try dsimp only at hSw); go_simp; try with_reducible rfl)
    try simp only [Act.put, List.setIfInBounds_toArray, List.set_cons_zero, List.set_cons_succ]
    refine reg_take (v := ?v6) 6 rfl (by kernel_rfl) (by kernel_rfl) (by kernel_rfl) (by rfl) ?hy6 (by assumption) ?_
    case hy6 => (intro w hSw; (try dsimp only at hSw); go_simp; try with_reducible rfl)
    try simp only [Act.put, List.setIfInBounds_toArray, List.set_cons_zero, List.set_cons_succ]
    refine reg_take (v := ?v7) 7 rfl (by kernel_rfl) (by kernel_rfl) (by kernel_rfl) (by rfl) ?hy7 (by assumption) ?_
    case hy7 => (intro w hSw; (try dsimp only at hSw); go_simp; try with_reducible rfl)
    try simp only [Act.put, List.setIfInBounds_toArray, List.set_cons_zero, List.set_cons_succ]
    refine reg_one 5 rfl (by kernel_rfl) (fun K hK => ?_)
    go_simp
    refine (vall_any _ r.n ok _ (by exact (HV.out.below (below_step hbel0 hb1) Nat.one_pos).heap rfl Nat.one_pos) HU.out (by have := HL.out; omega)).mono ?_
    rintro e w2 ⟨v2, rfl, hb2, ho2⟩
    replace hb2 := below_of_drew hb2
    have k0 := cell_below hb2 c0
    have k1 := cell_below hb2 c1
    have k2 := cell_below hb2 c2
    refine hK.out _ _ ?_ (fun hHeld => ?_)
    · first | exact ⟨k0, k1, k2⟩ | (dsimp only; go_keep)
    clear hK K
    try simp only [Act.put, List.setIfInBounds_toArray, List.set_cons_zero, List.set_cons_succ]
    refine reg_one 8 rfl (by kernel_rfl) (fun K hK => ?_)
    refine step_app_str w1.heap.size rfl (.tmp 12) (.tmp 14) rfl v2 (vall r.n) r.text rfl rfl ho2 hb2.size (by have := HL.out; omega) ?_
    intro v3 w3 ho3 hg3
    have hb3 : Below w1.heap.size w1 w3 := below_own hb2 hb2.size ho2 hg3
    have m0 := cell_below hb3 c0
    have m1 := cell_below hb3 c1
    have m2 := cell_below hb3 c2
    obtain ⟨A3, k3, rfl, _, _, _⟩ := ho3.sl.one
    refine hK.out _ _ ?_ (fun hHeld => ?_)
    · first | exact ⟨m0, m1, m2⟩ | (dsimp only; go_keep)
    clear hK K
    try simp only [Act.put, List.setIfInBounds_toArray, List.set_cons_zero, List.set_cons_succ]
    refine reg_take (v := ?v8) 9 rfl (by kernel_rfl) (by kernel_rfl) (by kernel_rfl) (by rfl) ?hy8 (by assumption) ?_
    case hy8 => (intro w hSw; (try dsimp only at hSw); go_simp; try with_reducible rfl)
    try simp only [Act.put, List.setIfInBounds_toArray, List.set_cons_zero, List.set_cons_succ]
    refine reg_one 10 rfl (by kernel_rfl) (fun K hK => ?_)
    go_simp
    have hs3 : Sl elU8 w3 (fun b => w1.heap.size ≤ b) (.slice A3 ((vall r.n).length + r.text.length) k3) (vall r.n ++ r.text) := by have h := ho3.sl; rw [List.length_append] at h; exact h
    refine (frameBytes_any k8 _ (vall r.n ++ r.text) _ _ hs3 (by have := HL.out; rw [List.length_append]; omega)).mono ?_
    rintro e w4 ⟨v4, rfl, hb4, hq4⟩
    have hbel3 := below_step hbel1 hb3
    have hbel4 := below_step hbel3 hb4
    rw [HFB.out] at hq4
    obtain ⟨u4, rfl, ho4⟩ := hq4
    have j0 := cell_below hb4 m0
    have j1 := cell_below hb4 m1
    have j2 := cell_below hb4 m2
    refine hK.out _ _ ?_ (fun hHeld => ?_)
    · first | exact ⟨j0, j1, j2⟩ | (dsimp only; go_keep)
    clear hK K
    try simp only [Act.put, List.setIfInBounds_toArray, List.set_cons_zero, List.set_cons_succ]
    refine reg_take (v := ?v9) 11 rfl (by kernel_rfl) (by kernel_rfl) (by kernel_rfl) (by rfl) ?hy9 (by assumption) ?_
    case hy9 => (intro w hSw; (try dsimp only at hSw); go_simp; try with_reducible rfl)
    try simp only [Act.put, List.setIfInBounds_toArray, List.set_cons_zero, List.set_cons_succ]
    refine reg_take (v := ?v10) 12 rfl (by kernel_rfl) (by kernel_rfl) (by kernel_rfl) (by rfl) ?hy10 (by assumption) ?_
    case hy10 => (intro w hSw; (try dsimp only at hSw); go_simp; try with_reducible rfl)
    try simp only [Act.put, List.setIfInBounds_toArray, List.set_cons_zero, List.set_cons_succ]
    refine reg_take (v := ?v11) 13 rfl (by kernel_rfl) (by kernel_rfl) (by kernel_rfl) (by rfl) ?hy11 (by assumption) ?_
    case hy11 => (intro w hSw; (try dsimp only at hSw); go_simp; try with_reducible rfl)
    try simp only [Act.put, List.setIfInBounds_toArray, List.set_cons_zero, List.set_cons_succ]
    refine reg_take (v := ?v12) 14 rfl (by kernel_rfl) (by kernel_rfl) (by kernel_rfl) (by rfl) ?hy12 (by assumption) ?_
    case hy12 => (intro w hSw; (try dsimp only at hSw); go_simp; try with_reducible rfl)
    try simp only [Act.put, List.setIfInBounds_toArray, List.set_cons_zero, List.set_cons_succ]
    refine reg_done (by kernel_rfl) ?_
    go_wp2_with fail
    go_ret2
    exact ⟨_, rfl, hbel4, _, rfl, ho4.less hbel3.size⟩

end Go.Proofs.YtocmnhjgknaocaaDoor
