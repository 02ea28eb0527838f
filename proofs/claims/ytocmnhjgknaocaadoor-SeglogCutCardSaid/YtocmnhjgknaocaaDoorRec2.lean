import Derived.Test.YtocmnhjgknaocaaDoorRec1
import Derived.Test.YtocmnhjgknaocaaDoorReg
set_option linter.unusedVariables false
set_option linter.unusedSimpArgs false
set_option maxRecDepth 100000
namespace Go.Proofs.YtocmnhjgknaocaaDoor
open Go.RowKit Tb

def strV (l : List UInt8) : Value := .string ⟨l.toArray⟩
def elRec : El Rec where
  sz := 3
  R := fun w ok x cs => ∃ u, cs = [.int .i64 x.kind, u, strV x.text] ∧ Sl elU64 w ok u x.n
  len := fun ⟨u, h, _⟩ => by rw [h]; rfl
  keep := fun ⟨u, h, hv⟩ hk => ⟨u, h, hv.keep hk Nat.one_pos⟩
  weak := fun ⟨u, h, hv⟩ hk => ⟨u, h, hv.weak hk Nat.one_pos⟩

theorem numbersL_get (k : Int) (h1 : 1 ≤ k) (h2 : k ≤ 17) : numbersL[k.toNat]? = some (.int .i64 (numbersOf k)) := by
  obtain ⟨n, rfl⟩ := Int.eq_ofNat_of_zero_le (show 0 ≤ k by omega)
  have hn : n < 18 := by omega
  match n, hn with
  | 0, _ => rfl | 1, _ => rfl | 2, _ => rfl | 3, _ => rfl | 4, _ => rfl | 5, _ => rfl | 6, _ => rfl | 7, _ => rfl | 8, _ => rfl
  | 9, _ => rfl | 10, _ => rfl | 11, _ => rfl | 12, _ => rfl | 13, _ => rfl | 14, _ => rfl | 15, _ => rfl | 16, _ => rfl | 17, _ => rfl
  | n + 18, h => exact absurd h (by omega)
theorem infoInt : (Tryd.prog.info? 3).map (fun i => (i.zero, i.size, i.bytes)) = some (some (.int .i64 0), 1, 8) := by kernel_rfl
theorem index_numbers (k : Int) (h1 : 1 ≤ k) (h2 : k ≤ 17) (W : World) : (Instr.index 97 (.agg numbersL.toArray) (.int .i64 k)).run Tryd.prog W = .ok (.int .i64 (numbersOf k)) W := by
  have hg := numbersL_get k h1 h2
  have hin : 0 ≤ k ∧ k < 18 := by omega
  have hsz : Tryd.prog.info? 3 = some Tryd.t3 := by kernel_rfl
  obtain ⟨i0, hi, hz0, hz1, hz2⟩ := info_parts infoInt
  simp [Instr.index, run_underlying Tryd.underlying97, asIntOf, hin, go_sem, part, isAgg, run_underlying Tryd.underlying3, sizeOf, typeInfo, hi, hz1]
  rw [hg]
  rfl

set_option maxHeartbeats 1600000 in
theorem right_any (r : Rec) (u : Value) (ok : Nat → Prop) (w : World) (hv : Sl elU64 w ok u r.n) (hlen : r.text.length ≤ 1000000000) :
    Calls Tryd.prog 12 #[.agg #[.int .i64 r.kind, u, strV r.text]] w (RetB w fun v _ => v = .bool (recRight r)) := by
  obtain ⟨kind, n, text⟩ := r
  obtain ⟨A, c, hu, hc1, hc2, hc⟩ := hv.one
  subst hu
  show Calls Tryd.prog 12 #[.agg #[.int .i64 kind, .slice A n.length c, .string ⟨text.toArray⟩]] w (RetB w fun v _ => v = .bool (recRight ⟨kind, n, text⟩))
  have hlen : text.length ≤ 1000000000 := hlen
  have hn : n.length ≤ 9223372036854775807 := Nat.le_trans hc1 hc2
  clear hv hc hc1 hc2
  have hbel0 : Below w.heap.size w (w.alloc (.cells #[.int .i64 kind, .slice A n.length c, .string ⟨text.toArray⟩] 26)) := below_alloc (Below.refl _ _) _
  have hbx : Blk (w.alloc (.cells #[.int .i64 kind, .slice A n.length c, .string ⟨text.toArray⟩] 26)) w.heap.size [.int .i64 kind, .slice A n.length c, .string ⟨text.toArray⟩] 26 := Blk.new w _ _
  rcases hk : known kind with _ | _
  · have hr : recRight ⟨kind, n, text⟩ = false := by simp [recRight, hk]
    rw [hr]
    go_enter Tryd.func12, Tryd.ntmps12
    go_wp2_with fail
    generalize w.alloc (.cells #[.int .i64 kind, .slice A n.length c, .string ⟨text.toArray⟩] 26) = W at hbel0 hbx ⊢
    have c0 := hbx.at 0 _ rfl
    have c1 := hbx.at 1 _ rfl
    have c2 := hbx.at 2 _ rfl
    refine reg_start (fun w' => w'.cell? ⟨w.heap.size, 0, none⟩ = some (.int .i64 kind) ∧ w'.cell? ⟨w.heap.size, 1, none⟩ = some (.slice A n.length c) ∧ w'.cell? ⟨w.heap.size, 2, none⟩ = some (.string ⟨text.toArray⟩)) (by kernel_rfl) ?_ (fun hHeld => ?_)
    · first | exact ⟨c0, c1, c2⟩ | (dsimp only; go_keep)
    refine reg_take (v := ?v1) 0 rfl (by kernel_rfl) (by kernel_rfl) (by kernel_rfl) (by rfl) ?hy1 (by assumption) ?_
    case hy1 => (intro w hSw; (try dsimp only at hSw); go_simp; try with_reducible rfl)
    try simp only [Act.put, List.setIfInBounds_toArray, List.set_cons_zero, List.set_cons_succ]
    refine reg_take (v := ?v2) 1 rfl (by kernel_rfl) (by kernel_rfl) (by kernel_rfl) (by rfl) ?hy2 (by assumption) ?_
    case hy2 => (intro w hSw; (try dsimp only at hSw); go_simp; try with_reducible rfl)
    try simp only [Act.put, List.setIfInBounds_toArray, List.set_cons_zero, List.set_cons_succ]
    refine reg_one 2 rfl (by kernel_rfl) (fun K hK => ?_)
    go_simp
    have h := known_any kind
    rw [hk] at h
    refine (h _).mono ?_
    clear h
    rintro e w1 ⟨rfl, rfl⟩
    refine hK.out _ _ ?_ (fun hHeld => ?_)
    · first | exact hHeld | (dsimp only; go_keep)
    clear hK K
    try simp only [Act.put, List.setIfInBounds_toArray, List.set_cons_zero, List.set_cons_succ]
    refine reg_take (v := ?v3) 3 rfl (by kernel_rfl) (by kernel_rfl) (by kernel_rfl) (by rfl) ?hy3 (by assumption) ?_
    case hy3 => (intro w hSw; (try dsimp only at hSw); go_simp; try with_reducible rfl)
    try simp only [Act.put, List.setIfInBounds_toArray, List.set_cons_zero, List.set_cons_succ]
    refine reg_skip 4 rfl (by kernel_rfl) (by kernel_rfl) (by kernel_rfl) (by rfl) (by assumption) ?_
    try simp only [Act.put, List.setIfInBounds_toArray, List.set_cons_zero, List.set_cons_succ]
    refine reg_skip 5 rfl (by kernel_rfl) (by kernel_rfl) (by kernel_rfl) (by rfl) (by assumption) ?_
    try simp only [Act.put, List.setIfInBounds_toArray, List.set_cons_zero, List.set_cons_succ]
    refine reg_skip 6 rfl (by kernel_rfl) (by kernel_rfl) (by kernel_rfl) (by rfl) (by assumption) ?_
    try simp only [Act.put, List.setIfInBounds_toArray, List.set_cons_zero, List.set_cons_succ]
    refine reg_skip 7 rfl (by kernel_rfl) (by kernel_rfl) (by kernel_rfl) (by rfl) (by assumption) ?_
    try simp only [Act.put, List.setIfInBounds_toArray, List.set_cons_zero, List.set_cons_succ]
    refine reg_skip 8 rfl (by kernel_rfl) (by kernel_rfl) (by kernel_rfl) (by rfl) (by assumption) ?_
    try simp only [Act.put, List.setIfInBounds_toArray, List.set_cons_zero, List.set_cons_succ]
    refine reg_skip 9 rfl (by kernel_rfl) (by kernel_rfl) (by kernel_rfl) (by rfl) (by assumption) ?_
    try simp only [Act.put, List.setIfInBounds_toArray, List.set_cons_zero, List.set_cons_succ]
    refine reg_skip 10 rfl (by kernel_rfl) (by kernel_rfl) (by kernel_rfl) (by rfl) (by assumption) ?_
    try simp only [Act.put, List.setIfInBounds_toArray, List.set_cons_zero, List.set_cons_succ]
    refine reg_skip 11 rfl (by kernel_rfl) (by kernel_rfl) (by kernel_rfl) (by rfl) (by assumption) ?_
    try simp only [Act.put, List.setIfInBounds_toArray, List.set_cons_zero, List.set_cons_succ]
    refine reg_take (v := ?v4) 12 rfl (by kernel_rfl) (by kernel_rfl) (by kernel_rfl) (by rfl) ?hy4 (by assumption) ?_
    case hy4 => (intro w hSw; (try dsimp only at hSw); go_simp; try with_reducible rfl)
    try simp only [Act.put, List.setIfInBounds_toArray, List.set_cons_zero, List.set_cons_succ]
    refine reg_take (v := ?v5) 13 rfl (by kernel_rfl) (by kernel_rfl) (by kernel_rfl) (by rfl) ?hy5 (by assumption) ?_
    case hy5 => (intro w hSw; (try dsimp only at hSw); go_simp; try with_reducible rfl)
    try simp only [Act.put, List.setIfInBounds_toArray, List.set_cons_zero, List.set_cons_succ]
    refine reg_skip 14 rfl (by kernel_rfl) (by kernel_rfl) (by kernel_rfl) (by rfl) (by assumption) ?_
    try simp only [Act.put, List.setIfInBounds_toArray, List.set_cons_zero, List.set_cons_succ]
    refine reg_skip 15 rfl (by kernel_rfl) (by kernel_rfl) (by kernel_rfl) (by rfl) (by assumption) ?_
    try simp only [Act.put, List.setIfInBounds_toArray, List.set_cons_zero, List.set_cons_succ]
    refine reg_skip 16 rfl (by kernel_rfl) (by kernel_rfl) (by kernel_rfl) (by rfl) (by assumption) ?_
    try simp only [Act.put, List.setIfInBounds_toArray, List.set_cons_zero, List.set_cons_succ]
    refine reg_skip 17 rfl (by kernel_rfl) (by kernel_rfl) (by kernel_rfl) (by rfl) (by assumption) ?_
    try simp only [Act.put, List.setIfInBounds_toArray, List.set_cons_zero, List.set_cons_succ]
    refine reg_skip 18 rfl (by kernel_rfl) (by kernel_rfl) (by kernel_rfl) (by rfl) (by assumption) ?_
    try simp only [Act.put, List.setIfInBounds_toArray, List.set_cons_zero, List.set_cons_succ]
    refine reg_skip 19 rfl (by kernel_rfl) (by kernel_rfl) (by kernel_rfl) (by rfl) (by assumption) ?_
    try simp only [Act.put, List.setIfInBounds_toArray, List.set_cons_zero, List.set_cons_succ]
    refine reg_take (v := ?v6) 20 rfl (by kernel_rfl) (by kernel_rfl) (by kernel_rfl) (by rfl) ?hy6 (by assumption) ?_
    case hy6 => (intro w hSw; (try dsimp only at hSw); go_simp; try with_reducible rfl)
    try simp only [Act.put, List.setIfInBounds_toArray, List.set_cons_zero, List.set_cons_succ]
    refine reg_take (v := ?v7) 21 rfl (by kernel_rfl) (by kernel_rfl) (by kernel_rfl) (by rfl) ?hy7 (by assumption) ?_
    case hy7 => (intro w hSw; (try dsimp only at hSw); go_simp; try with_reducible rfl)
    try simp only [Act.put, List.setIfInBounds_toArray, List.set_cons_zero, List.set_cons_succ]
    refine reg_done (by kernel_rfl) ?_
    go_wp2_with fail
    go_ret
    exact ⟨_, rfl, below_drewN hbel0 1, rfl⟩
  · have hr : recRight ⟨kind, n, text⟩ = (n.length == numbersOf kind && fits kind text.length) := by simp [recRight, hk]
    rw [hr]
    have hk1 : 1 ≤ kind ∧ kind ≤ 17 := by simpa [known] using hk
    have hg := numbersL_get kind hk1.1 hk1.2
    have hm := numbersOf_le kind
    have hk0 : 0 ≤ kind := by omega
    have hk17 : kind < 18 := by omega
    have hidx := index_numbers kind hk1.1 hk1.2
    rcases he : (n.length == numbersOf kind) with _ | _
    · have he2 : ((n.length : Int) == (numbersOf kind : Int)) = false := by simp at he ⊢; omega
      go_enter Tryd.func12, Tryd.ntmps12
      go_wp2_with fail
      generalize w.alloc (.cells #[.int .i64 kind, .slice A n.length c, .string ⟨text.toArray⟩] 26) = W at hbel0 hbx ⊢
      have c0 := hbx.at 0 _ rfl
      have c1 := hbx.at 1 _ rfl
      have c2 := hbx.at 2 _ rfl
      refine reg_start (fun w' => w'.cell? ⟨w.heap.size, 0, none⟩ = some (.int .i64 kind) ∧ w'.cell? ⟨w.heap.size, 1, none⟩ = some (.slice A n.length c) ∧ w'.cell? ⟨w.heap.size, 2, none⟩ = some (.string ⟨text.toArray⟩)) (by kernel_rfl) ?_ (fun hHeld => ?_)
      · first | exact ⟨c0, c1, c2⟩ | (dsimp only; go_keep)
      refine reg_take (v := ?v8) 0 rfl (by kernel_rfl) (by kernel_rfl) (by kernel_rfl) (by rfl) ?hy8 (by assumption) ?_
      case hy8 => (intro w hSw; (try dsimp only at hSw); go_simp; try with_reducible rfl)
      try simp only [Act.put, List.setIfInBounds_toArray, List.set_cons_zero, List.set_cons_succ]
      refine reg_take (v := ?v9) 1 rfl (by kernel_rfl) (by kernel_rfl) (by kernel_rfl) (by rfl) ?hy9 (by assumption) ?_
      case hy9 => (intro w hSw; (try dsimp only at hSw); go_simp; try with_reducible rfl)
      try simp only [Act.put, List.setIfInBounds_toArray, List.set_cons_zero, List.set_cons_succ]
      refine reg_one 2 rfl (by kernel_rfl) (fun K hK => ?_)
      go_simp
      have h := known_any kind
      rw [hk] at h
      refine (h _).mono ?_
      clear h
      rintro e w1 ⟨rfl, rfl⟩
      refine hK.out _ _ ?_ (fun hHeld => ?_)
      · first | exact hHeld | (dsimp only; go_keep)
      clear hK K
      try simp only [Act.put, List.setIfInBounds_toArray, List.set_cons_zero, List.set_cons_succ]
      refine reg_take (v := ?v10) 3 rfl (by kernel_rfl) (by kernel_rfl) (by kernel_rfl) (by rfl) ?hy10 (by assumption) ?_
      case hy10 => (intro w hSw; (try dsimp only at hSw); go_simp; try with_reducible rfl)
      try simp only [Act.put, List.setIfInBounds_toArray, List.set_cons_zero, List.set_cons_succ]
      refine reg_take (v := ?v11) 4 rfl (by kernel_rfl) (by kernel_rfl) (by kernel_rfl) (by rfl) ?hy11 (by assumption) ?_
      case hy11 => (intro w hSw; (try dsimp only at hSw); go_simp; try with_reducible rfl)
      try simp only [Act.put, List.setIfInBounds_toArray, List.set_cons_zero, List.set_cons_succ]
      refine reg_take (v := ?v12) 5 rfl (by kernel_rfl) (by kernel_rfl) (by kernel_rfl) (by rfl) ?hy12 (by assumption) ?_
      case hy12 => (intro w hSw; (try dsimp only at hSw); go_simp; try with_reducible rfl)
      try simp only [Act.put, List.setIfInBounds_toArray, List.set_cons_zero, List.set_cons_succ]
      refine reg_take (v := ?v13) 6 rfl (by kernel_rfl) (by kernel_rfl) (by kernel_rfl) (by rfl) ?hy13 (by assumption) ?_
      case hy13 => (intro w hSw; (try dsimp only at hSw); go_simp; try with_reducible rfl)
      try simp only [Act.put, List.setIfInBounds_toArray, List.set_cons_zero, List.set_cons_succ]
      refine reg_take (v := ?v14) 8 rfl (by kernel_rfl) (by kernel_rfl) (by kernel_rfl) (by rfl) ?hy14 (by assumption) ?_
      case hy14 => (intro w hSw; (try dsimp only at hSw); go_simp; try with_reducible rfl)
      try simp only [Act.put, List.setIfInBounds_toArray, List.set_cons_zero, List.set_cons_succ]
      refine reg_take (v := ?v15) 9 rfl (by kernel_rfl) (by kernel_rfl) (by kernel_rfl) (by rfl) ?hy15 (by assumption) ?_
      case hy15 => (intro w hSw; (try dsimp only at hSw); go_simp; try with_reducible rfl)
      try simp only [Act.put, List.setIfInBounds_toArray, List.set_cons_zero, List.set_cons_succ]
      refine reg_one 7 rfl (by kernel_rfl) (fun K hK => ?_)
      go_simp
      refine (numbers_any _).mono ?_
      rintro e w1 ⟨v1, rfl, hb1, rfl⟩
      replace hb1 := below_of_drew hb1
      have k0 := cell_below hb1 c0
      have k1 := cell_below hb1 c1
      have k2 := cell_below hb1 c2
      refine hK.out _ _ ?_ (fun hHeld => ?_)
      · first | exact ⟨k0, k1, k2⟩ | (dsimp only; go_keep)
      clear hK K
      try simp only [Act.put, List.setIfInBounds_toArray, List.set_cons_zero, List.set_cons_succ]
      refine reg_take (v := ?v16) 10 rfl (by kernel_rfl) (by kernel_rfl) (by kernel_rfl) (by rfl) ?hy16 (by assumption) ?_
      case hy16 => (intro w hSw; (try dsimp only at hSw); go_simp; try with_reducible rfl)
      try simp only [Act.put, List.setIfInBounds_toArray, List.set_cons_zero, List.set_cons_succ]
      refine reg_take (v := ?v17) 11 rfl (by kernel_rfl) (by kernel_rfl) (by kernel_rfl) (by rfl) ?hy17 (by assumption) ?_
      case hy17 => (intro w hSw; (try dsimp only at hSw); go_simp; try with_reducible rfl)
      try simp only [Act.put, List.setIfInBounds_toArray, List.set_cons_zero, List.set_cons_succ]
      refine reg_take (v := ?v18) 12 rfl (by kernel_rfl) (by kernel_rfl) (by kernel_rfl) (by rfl) ?hy18 (by assumption) ?_
      case hy18 => (intro w hSw; (try dsimp only at hSw); go_simp; try with_reducible rfl)
      try simp only [Act.put, List.setIfInBounds_toArray, List.set_cons_zero, List.set_cons_succ]
      refine reg_take (v := ?v19) 13 rfl (by kernel_rfl) (by kernel_rfl) (by kernel_rfl) (by rfl) ?hy19 (by assumption) ?_
      case hy19 => (intro w hSw; (try dsimp only at hSw); go_simp; try with_reducible rfl)
      try simp only [Act.put, List.setIfInBounds_toArray, List.set_cons_zero, List.set_cons_succ]
      refine reg_skip 14 rfl (by kernel_rfl) (by kernel_rfl) (by kernel_rfl) (by rfl) (by assumption) ?_
      try simp only [Act.put, List.setIfInBounds_toArray, List.set_cons_zero, List.set_cons_succ]
      refine reg_skip 15 rfl (by kernel_rfl) (by kernel_rfl) (by kernel_rfl) (by rfl) (by assumption) ?_
      try simp only [Act.put, List.setIfInBounds_toArray, List.set_cons_zero, List.set_cons_succ]
      refine reg_skip 16 rfl (by kernel_rfl) (by kernel_rfl) (by kernel_rfl) (by rfl) (by assumption) ?_
      try simp only [Act.put, List.setIfInBounds_toArray, List.set_cons_zero, List.set_cons_succ]
      refine reg_skip 17 rfl (by kernel_rfl) (by kernel_rfl) (by kernel_rfl) (by rfl) (by assumption) ?_
      try simp only [Act.put, List.setIfInBounds_toArray, List.set_cons_zero, List.set_cons_succ]
      refine reg_skip 18 rfl (by kernel_rfl) (by kernel_rfl) (by kernel_rfl) (by rfl) (by assumption) ?_
      try simp only [Act.put, List.setIfInBounds_toArray, List.set_cons_zero, List.set_cons_succ]
      refine reg_skip 19 rfl (by kernel_rfl) (by kernel_rfl) (by kernel_rfl) (by rfl) (by assumption) ?_
      try simp only [Act.put, List.setIfInBounds_toArray, List.set_cons_zero, List.set_cons_succ]
      refine reg_take (v := ?v20) 20 rfl (by kernel_rfl) (by kernel_rfl) (by kernel_rfl) (by rfl) ?hy20 (by assumption) ?_
      case hy20 => (intro w hSw; (try dsimp only at hSw); go_simp; try with_reducible rfl)
      try simp only [Act.put, List.setIfInBounds_toArray, List.set_cons_zero, List.set_cons_succ]
      refine reg_take (v := ?v21) 21 rfl (by kernel_rfl) (by kernel_rfl) (by kernel_rfl) (by rfl) ?hy21 (by assumption) ?_
      case hy21 => (intro w hSw; (try dsimp only at hSw); go_simp; try with_reducible rfl)
      try simp only [Act.put, List.setIfInBounds_toArray, List.set_cons_zero, List.set_cons_succ]
      refine reg_done (by kernel_rfl) ?_
      go_wp2_with fail
      go_ret
      exact ⟨_, rfl, below_step hbel0 hb1, rfl⟩
    · have he2 : ((n.length : Int) == (numbersOf kind : Int)) = true := by simp at he ⊢; omega
      go_enter Tryd.func12, Tryd.ntmps12
      go_wp2_with fail
      generalize w.alloc (.cells #[.int .i64 kind, .slice A n.length c, .string ⟨text.toArray⟩] 26) = W at hbel0 hbx ⊢
      have c0 := hbx.at 0 _ rfl
      have c1 := hbx.at 1 _ rfl
      have c2 := hbx.at 2 _ rfl
      refine reg_start (fun w' => w'.cell? ⟨w.heap.size, 0, none⟩ = some (.int .i64 kind) ∧ w'.cell? ⟨w.heap.size, 1, none⟩ = some (.slice A n.length c) ∧ w'.cell? ⟨w.heap.size, 2, none⟩ = some (.string ⟨text.toArray⟩)) (by kernel_rfl) ?_ (fun hHeld => ?_)
      · first | exact ⟨c0, c1, c2⟩ | (dsimp only; go_keep)
      refine reg_take (v := ?v22) 0 rfl (by kernel_rfl) (by kernel_rfl) (by kernel_rfl) (by rfl) ?hy22 (by assumption) ?_
      case hy22 => (intro w hSw; (try dsimp only at hSw); go_simp; try with_reducible rfl)
      try simp only [Act.put, List.setIfInBounds_toArray, List.set_cons_zero, List.set_cons_succ]
      refine reg_take (v := ?v23) 1 rfl (by kernel_rfl) (by kernel_rfl) (by kernel_rfl) (by rfl) ?hy23 (by assumption) ?_
      case hy23 => (intro w hSw; (try dsimp only at hSw); go_simp; try with_reducible rfl)
      try simp only [Act.put, List.setIfInBounds_toArray, List.set_cons_zero, List.set_cons_succ]
      refine reg_one 2 rfl (by kernel_rfl) (fun K hK => ?_)
      go_simp
      have h := known_any kind
      rw [hk] at h
      refine (h _).mono ?_
      clear h
      rintro e w1 ⟨rfl, rfl⟩
      refine hK.out _ _ ?_ (fun hHeld => ?_)
      · first | exact hHeld | (dsimp only; go_keep)
      clear hK K
      try simp only [Act.put, List.setIfInBounds_toArray, List.set_cons_zero, List.set_cons_succ]
      refine reg_take (v := ?v24) 3 rfl (by kernel_rfl) (by kernel_rfl) (by kernel_rfl) (by rfl) ?hy24 (by assumption) ?_
      case hy24 => (intro w hSw; (try dsimp only at hSw); go_simp; try with_reducible rfl)
      try simp only [Act.put, List.setIfInBounds_toArray, List.set_cons_zero, List.set_cons_succ]
      refine reg_take (v := ?v25) 4 rfl (by kernel_rfl) (by kernel_rfl) (by kernel_rfl) (by rfl) ?hy25 (by assumption) ?_
      case hy25 => (intro w hSw; (try dsimp only at hSw); go_simp; try with_reducible rfl)
      try simp only [Act.put, List.setIfInBounds_toArray, List.set_cons_zero, List.set_cons_succ]
      refine reg_take (v := ?v26) 5 rfl (by kernel_rfl) (by kernel_rfl) (by kernel_rfl) (by rfl) ?hy26 (by assumption) ?_
      case hy26 => (intro w hSw; (try dsimp only at hSw); go_simp; try with_reducible rfl)
      try simp only [Act.put, List.setIfInBounds_toArray, List.set_cons_zero, List.set_cons_succ]
      refine reg_take (v := ?v27) 6 rfl (by kernel_rfl) (by kernel_rfl) (by kernel_rfl) (by rfl) ?hy27 (by assumption) ?_
      case hy27 => (intro w hSw; (try dsimp only at hSw); go_simp; try with_reducible rfl)
      try simp only [Act.put, List.setIfInBounds_toArray, List.set_cons_zero, List.set_cons_succ]
      refine reg_take (v := ?v28) 8 rfl (by kernel_rfl) (by kernel_rfl) (by kernel_rfl) (by rfl) ?hy28 (by assumption) ?_
      case hy28 => (intro w hSw; (try dsimp only at hSw); go_simp; try with_reducible rfl)
      try simp only [Act.put, List.setIfInBounds_toArray, List.set_cons_zero, List.set_cons_succ]
      refine reg_take (v := ?v29) 9 rfl (by kernel_rfl) (by kernel_rfl) (by kernel_rfl) (by rfl) ?hy29 (by assumption) ?_
      case hy29 => (intro w hSw; (try dsimp only at hSw); go_simp; try with_reducible rfl)
      try simp only [Act.put, List.setIfInBounds_toArray, List.set_cons_zero, List.set_cons_succ]
      refine reg_one 7 rfl (by kernel_rfl) (fun K hK => ?_)
      go_simp
      refine (numbers_any _).mono ?_
      rintro e w1 ⟨v1, rfl, hb1, rfl⟩
      replace hb1 := below_of_drew hb1
      have k0 := cell_below hb1 c0
      have k1 := cell_below hb1 c1
      have k2 := cell_below hb1 c2
      refine hK.out _ _ ?_ (fun hHeld => ?_)
      · first | exact ⟨k0, k1, k2⟩ | (dsimp only; go_keep)
      clear hK K
      try simp only [Act.put, List.setIfInBounds_toArray, List.set_cons_zero, List.set_cons_succ]
      refine reg_take (v := ?v30) 10 rfl (by kernel_rfl) (by kernel_rfl) (by kernel_rfl) (by rfl) ?hy30 (by assumption) ?_
      case hy30 => (intro w hSw; (try dsimp only at hSw); go_simp; try with_reducible rfl)
      try simp only [Act.put, List.setIfInBounds_toArray, List.set_cons_zero, List.set_cons_succ]
      refine reg_take (v := ?v31) 11 rfl (by kernel_rfl) (by kernel_rfl) (by kernel_rfl) (by rfl) ?hy31 (by assumption) ?_
      case hy31 => (intro w hSw; (try dsimp only at hSw); go_simp; try with_reducible rfl)
      try simp only [Act.put, List.setIfInBounds_toArray, List.set_cons_zero, List.set_cons_succ]
      refine reg_take (v := ?v32) 12 rfl (by kernel_rfl) (by kernel_rfl) (by kernel_rfl) (by rfl) ?hy32 (by assumption) ?_
      case hy32 => (intro w hSw; (try dsimp only at hSw); go_simp; try with_reducible rfl)
      try simp only [Act.put, List.setIfInBounds_toArray, List.set_cons_zero, List.set_cons_succ]
      refine reg_take (v := ?v33) 13 rfl (by kernel_rfl) (by kernel_rfl) (by kernel_rfl) (by rfl) ?hy33 (by assumption) ?_
      case hy33 => (intro w hSw; (try dsimp only at hSw); go_simp; try with_reducible rfl)
      try simp only [Act.put, List.setIfInBounds_toArray, List.set_cons_zero, List.set_cons_succ]
      refine reg_take (v := ?v34) 14 rfl (by kernel_rfl) (by kernel_rfl) (by kernel_rfl) (by rfl) ?hy34 (by assumption) ?_
      case hy34 => (intro w hSw; (try dsimp only at hSw); go_simp; try with_reducible rfl)
      try simp only [Act.put, List.setIfInBounds_toArray, List.set_cons_zero, List.set_cons_succ]
      refine reg_take (v := ?v35) 15 rfl (by kernel_rfl) (by kernel_rfl) (by kernel_rfl) (by rfl) ?hy35 (by assumption) ?_
      case hy35 => (intro w hSw; (try dsimp only at hSw); go_simp; try with_reducible rfl)
      try simp only [Act.put, List.setIfInBounds_toArray, List.set_cons_zero, List.set_cons_succ]
      refine reg_take (v := ?v36) 16 rfl (by kernel_rfl) (by kernel_rfl) (by kernel_rfl) (by rfl) ?hy36 (by assumption) ?_
      case hy36 => (intro w hSw; (try dsimp only at hSw); go_simp; try with_reducible rfl)
      try simp only [Act.put, List.setIfInBounds_toArray, List.set_cons_zero, List.set_cons_succ]
      refine reg_take (v := ?v37) 17 rfl (by kernel_rfl) (by kernel_rfl) (by kernel_rfl) (by rfl) ?hy37 (by assumption) ?_
      case hy37 => (intro w hSw; (try dsimp only at hSw); go_simp; try with_reducible rfl)
      try simp only [Act.put, List.setIfInBounds_toArray, List.set_cons_zero, List.set_cons_succ]
      refine reg_take (v := ?v38) 18 rfl (by kernel_rfl) (by kernel_rfl) (by kernel_rfl) (by rfl) ?hy38 (by assumption) ?_
      case hy38 => (intro w hSw; (try dsimp only at hSw); go_simp; try with_reducible rfl)
      try simp only [Act.put, List.setIfInBounds_toArray, List.set_cons_zero, List.set_cons_succ]
      refine reg_one 19 rfl (by kernel_rfl) (fun K hK => ?_)
      go_simp
      refine (fits_any kind text.length _).mono ?_
      rintro e w2 ⟨rfl, rfl⟩
      refine hK.out _ _ ?_ (fun hHeld => ?_)
      · first | exact hHeld | (dsimp only; go_keep)
      clear hK K
      try simp only [Act.put, List.setIfInBounds_toArray, List.set_cons_zero, List.set_cons_succ]
      refine reg_take (v := ?v39) 20 rfl (by kernel_rfl) (by kernel_rfl) (by kernel_rfl) (by rfl) ?hy39 (by assumption) ?_
      case hy39 => (intro w hSw; (try dsimp only at hSw); go_simp; try with_reducible rfl)
      try simp only [Act.put, List.setIfInBounds_toArray, List.set_cons_zero, List.set_cons_succ]
      refine reg_take (v := ?v40) 21 rfl (by kernel_rfl) (by kernel_rfl) (by kernel_rfl) (by rfl) ?hy40 (by assumption) ?_
      case hy40 => (intro w hSw; (try dsimp only at hSw); go_simp; try with_reducible rfl)
      try simp only [Act.put, List.setIfInBounds_toArray, List.set_cons_zero, List.set_cons_succ]
      refine reg_done (by kernel_rfl) ?_
      go_wp2_with fail
      go_ret
      exact ⟨_, rfl, below_step hbel0 hb1, by simp⟩

end Go.Proofs.YtocmnhjgknaocaaDoor
