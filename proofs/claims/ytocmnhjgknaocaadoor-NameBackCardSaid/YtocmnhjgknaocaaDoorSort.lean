import Derived.Test.YtocmnhjgknaocaaDoorRefs
import Derived.Sort.LotA
import Derived.Sort.Row
set_option linter.unusedVariables false
set_option linter.unusedSimpArgs false
set_option maxRecDepth 100000
namespace Go.Proofs.YtocmnhjgknaocaaDoor
open Go.RowKit Tb

theorem nan_any (x : Nat) (w : World) : Calls Tryd.prog 140 #[.int .u64 x] w (Ret (.bool false) w) := by
  go_enter Tryd.func140, Tryd.ntmps140
  go_wp2_with fail
  go_ret
  exact ⟨by simp, rfl⟩
theorem less_any (x y : Nat) (w : World) : Calls Tryd.prog 119 #[.int .u64 x, .int .u64 y] w (Ret (.bool (decide (x < y))) w) := by
  by_cases h : x < y
  · have hd : decide (x < y) = true := by simpa using h
    rw [hd]
    go_enter Tryd.func119, Tryd.ntmps119
    go_wp2_with (go_at_call 140; refine (nan_any _ _).mono ?_; rintro e w1 ⟨rfl, rfl⟩)
    go_ret
    exact ⟨rfl, rfl⟩
  · have hd : decide (x < y) = false := by simpa using h
    rw [hd]
    go_enter Tryd.func119, Tryd.ntmps119
    go_wp2_with (go_at_call 140; refine (nan_any _ _).mono ?_; rintro e w1 ⟨rfl, rfl⟩)
    go_ret
    exact ⟨rfl, rfl⟩

abbrev encU : Nat → Value := fun n => .int .u64 n
def ltN (x y : Nat) : Bool := decide (x < y)
theorem insInner_go1 {α : Type} [Inhabited α] (lt : α → α → Bool) (a j : Nat) (d : Array α) (hj : a < j) (hl : lt d[j]! d[j - 1]! = true) : Sort.insInner lt a j d = Sort.insInner lt a (j - 1) (Sort.swp d j (j - 1)) := by
  obtain ⟨k, rfl⟩ : ∃ k, j = k + 1 := ⟨j - 1, by omega⟩
  conv => lhs; unfold Sort.insInner
  simp only [Nat.add_sub_cancel] at hl ⊢
  rw [if_pos (by simp [hl]; try omega)]
theorem insInner_end {α : Type} [Inhabited α] (lt : α → α → Bool) (a j : Nat) (d : Array α) (h : j ≤ a ∨ lt d[j]! d[j - 1]! = false) : Sort.insInner lt a j d = d := by
  rcases j with _ | k
  · rfl
  · unfold Sort.insInner
    simp only [Nat.add_sub_cancel] at h
    rw [if_neg]
    rcases h with h | h
    · simp <;> omega
    · simp [h]
theorem holds_set {w : World} {g o : Nat} {d : Array Nat} (h : Sort.Holds encU w g o d) {i : Nat} (hi : i < d.size) (x : Nat) : Sort.Holds encU (w.setCell ⟨g, o + i, none⟩ (encU x)) g o (d.setIfInBounds i x) := by
  intro j hj
  have hj' : j < d.size := by simpa using hj
  refine ⟨?_, by rw [World.frozen?_setCell]; exact (h j hj').2⟩
  by_cases e : j = i
  · subst e
    rw [World.cell?_setCell_same _ _ _ (h j hj').1, Sort.getElem!_set_same d j x hj']
  · rw [World.cell?_setCell_other _ _ _ _ (by simp <;> omega), (h j hj').1]
    congr 2
    rw [getElem!_pos _ j hj', getElem!_pos _ j hj, Array.getElem_setIfInBounds, if_neg (fun e2 => e e2.symm)]
def SortPost (w : World) (g o : Nat) (d : Array Nat) (e : Ending) (w' : World) : Prop :=
  e = .returned (.tuple #[]) ∧ Sort.Holds encU w' g o d ∧ Kept (fun b => b = g) w w' ∧ w'.heap.size = w.heap.size

set_option maxHeartbeats 1600000 in
theorem insertion_any (g o cap a b : Nat) (d : Array Nat) (w : World) (hH : Sort.Holds encU w g o d) (hab : a ≤ b) (hb : b ≤ d.size) (hsz : d.size < 4611686018427387904) :
    Calls Tryd.prog 113 #[.slice (some ⟨g, o, none⟩) d.size cap, .int .i64 a, .int .i64 b] w (SortPost w g o (Sort.insertionSort ltN d a b)) := by
  go_enter Tryd.func113, Tryd.ntmps113
  go_wp2_with fail
  go_loopw [6] (fun vi wr => ∃ (i : Nat) (dk : Array Nat), vi = .int .i64 i ∧ a < i ∧ i ≤ b + 1 ∧ dk.size = d.size ∧ Sort.Holds encU wr g o dk ∧ Kept (fun b => b = g) w wr ∧ wr.heap.size = w.heap.size ∧
      Sort.insOuter ltN a b i dk = Sort.insOuter ltN a b (a + 1) d) (fun vi _ => b + 1 - (intOf vi).toNat)
  case atStart => exact ⟨a + 1, d, by go_num, by omega, by omega, rfl, hH, Kept.refl _ _, rfl, rfl⟩
  case round =>
    obtain ⟨i, dk, rfl, hai, hib, hsk, hk, hkk, hks, hO⟩ := hrel
    have HO := Lib.hid hO
    have HK := Lib.hid hk
    have HKK := Lib.hid hkk
    have HKS := Lib.hid hks
    clear hO hk hkk hks hH
    by_cases hlt : i < b
    · go_wp2_with fail
      go_loopw [7] (fun vj wr2 => ∃ (j : Nat) (dj : Array Nat), vj = .int .i64 j ∧ a ≤ j ∧ j ≤ i ∧ dj.size = d.size ∧ Sort.Holds encU wr2 g o dj ∧ Kept (fun b => b = g) w wr2 ∧ wr2.heap.size = w.heap.size ∧
          Sort.insInner ltN a j dj = Sort.insInner ltN a i dk) (fun vj _ => (intOf vj).toNat)
      case atStart => exact ⟨i, dk, rfl, by omega, Nat.le_refl _, hsk, HK.out, HKK.out, HKS.out, rfl⟩
      case round =>
        clear HK HKK HKS
        obtain ⟨j, dj, rfl, haj, hji, hsj, hj, hjk, hjs, hI⟩ := hrel
        by_cases hja : a < j
        · have hj1 : j < dj.size := by omega
          have hj2 : j - 1 < dj.size := by omega
          have c1 := (hj j hj1).1
          have c2 := (hj (j - 1) hj2).1
          have f1 := (hj j hj1).2
          have f2 := (hj (j - 1) hj2).2
          have HJ := Lib.hid hj
          have HJK := Lib.hid hjk
          have HJS := Lib.hid hjs
          have HI := Lib.hid hI
          obtain ⟨x, hx⟩ : ∃ x, x = dj[j]! := ⟨_, rfl⟩
          obtain ⟨y, hy⟩ : ∃ y, y = dj[j - 1]! := ⟨_, rfl⟩
          rw [← hx] at c1
          rw [← hy] at c2
          have HX := Lib.hid hx
          have HY := Lib.hid hy
          clear hj hjk hjs hI hx hy
          have hja2 : (a : Int) < (j : Int) := by omega
          have hj3 : (j : Int) < (d.size : Int) := by omega
          have hj4 : IntKind.i64.wrap ((j : Int) - 1) = ((j - 1 : Nat) : Int) := by rw [IntKind.wrap_i64]; omega
          have hj5 : ((j - 1 : Nat) : Int) < (d.size : Int) := by omega
          by_cases hxy : x < y
          · have hd : decide (x < y) = true := by simpa using hxy
            go_wp2_with fail
            refine reg_start (fun w' => w'.cell? ⟨g, o + j, none⟩ = some (.int .u64 x) ∧ w'.cell? ⟨g, o + (j - 1), none⟩ = some (.int .u64 y)) (by kernel_rfl) ?_ (fun hHeld => ?_)
            · first | exact ⟨c1, c2⟩ | (dsimp only; go_keep)
            refine reg_take (v := ?v1) 0 rfl (by kernel_rfl) (by kernel_rfl) (by kernel_rfl) (by rfl) ?hy1 (by assumption) ?_
            case hy1 => (intro w hSw; (try dsimp only at hSw); go_simp; try with_reducible rfl)
            try simp only [Act.put, List.setIfInBounds_toArray, List.set_cons_zero, List.set_cons_succ]
            refine reg_take (v := ?v2) 1 rfl (by kernel_rfl) (by kernel_rfl) (by kernel_rfl) (by rfl) ?hy2 (by assumption) ?_
            case hy2 => (intro w hSw; (try dsimp only at hSw); go_simp; try with_reducible rfl)
            try simp only [Act.put, List.setIfInBounds_toArray, List.set_cons_zero, List.set_cons_succ]
            refine reg_take (v := ?v3) 2 rfl (by kernel_rfl) (by kernel_rfl) (by kernel_rfl) (by rfl) ?hy3 (by assumption) ?_
            case hy3 => (intro w hSw; (try dsimp only at hSw); go_simp; try with_reducible rfl)
            try simp only [Act.put, List.setIfInBounds_toArray, List.set_cons_zero, List.set_cons_succ]
            refine reg_take (v := ?v4) 3 rfl (by kernel_rfl) (by kernel_rfl) (by kernel_rfl) (by rfl) ?hy4 (by assumption) ?_
            case hy4 => (intro w hSw; (try dsimp only at hSw); go_simp; try with_reducible rfl)
            try simp only [Act.put, List.setIfInBounds_toArray, List.set_cons_zero, List.set_cons_succ]
            refine reg_take (v := ?v5) 4 rfl (by kernel_rfl) (by kernel_rfl) (by kernel_rfl) (by rfl) ?hy5 (by assumption) ?_
            case hy5 => (intro w hSw; (try dsimp only at hSw); go_simp; try with_reducible rfl)
            try simp only [Act.put, List.setIfInBounds_toArray, List.set_cons_zero, List.set_cons_succ]
            refine reg_take (v := ?v6) 5 rfl (by kernel_rfl) (by kernel_rfl) (by kernel_rfl) (by rfl) ?hy6 (by assumption) ?_
            case hy6 => (intro w hSw; (try dsimp only at hSw); go_simp; try with_reducible rfl)
            try simp only [Act.put, List.setIfInBounds_toArray, List.set_cons_zero, List.set_cons_succ]
            refine reg_take (v := ?v7) 6 rfl (by kernel_rfl) (by kernel_rfl) (by kernel_rfl) (by rfl) ?hy7 (by assumption) ?_
            case hy7 => (intro w hSw; (try dsimp only at hSw); go_simp; try with_reducible rfl)
            try simp only [Act.put, List.setIfInBounds_toArray, List.set_cons_zero, List.set_cons_succ]
            refine reg_take (v := ?v8) 7 rfl (by kernel_rfl) (by kernel_rfl) (by kernel_rfl) (by rfl) ?hy8 (by assumption) ?_
            case hy8 => (intro w hSw; (try dsimp only at hSw); go_simp; try with_reducible rfl)
            try simp only [Act.put, List.setIfInBounds_toArray, List.set_cons_zero, List.set_cons_succ]
            refine reg_take (v := ?v9) 8 rfl (by kernel_rfl) (by kernel_rfl) (by kernel_rfl) (by rfl) ?hy9 (by assumption) ?_
            case hy9 => (intro w hSw; (try dsimp only at hSw); go_simp; try with_reducible rfl)
            try simp only [Act.put, List.setIfInBounds_toArray, List.set_cons_zero, List.set_cons_succ]
            refine reg_take (v := ?v10) 9 rfl (by kernel_rfl) (by kernel_rfl) (by kernel_rfl) (by rfl) ?hy10 (by assumption) ?_
            case hy10 => (intro w hSw; (try dsimp only at hSw); go_simp; try with_reducible rfl)
            try simp only [Act.put, List.setIfInBounds_toArray, List.set_cons_zero, List.set_cons_succ]
            refine reg_take (v := ?v11) 10 rfl (by kernel_rfl) (by kernel_rfl) (by kernel_rfl) (by rfl) ?hy11 (by assumption) ?_
            case hy11 => (intro w hSw; (try dsimp only at hSw); go_simp; try with_reducible rfl)
            try simp only [Act.put, List.setIfInBounds_toArray, List.set_cons_zero, List.set_cons_succ]
            refine reg_take (v := ?v12) 11 rfl (by kernel_rfl) (by kernel_rfl) (by kernel_rfl) (by rfl) ?hy12 (by assumption) ?_
            case hy12 => (intro w hSw; (try dsimp only at hSw); go_simp; try with_reducible rfl)
            try simp only [Act.put, List.setIfInBounds_toArray, List.set_cons_zero, List.set_cons_succ]
            refine reg_take (v := ?v13) 12 rfl (by kernel_rfl) (by kernel_rfl) (by kernel_rfl) (by rfl) ?hy13 (by assumption) ?_
            case hy13 => (intro w hSw; (try dsimp only at hSw); go_simp; try with_reducible rfl)
            try simp only [Act.put, List.setIfInBounds_toArray, List.set_cons_zero, List.set_cons_succ]
            refine reg_one 13 rfl (by kernel_rfl) (fun K hK => ?_)
            go_simp
            have h := less_any x y
            rw [hd] at h
            refine (h _).mono ?_
            clear h
            rintro e w1 ⟨rfl, rfl⟩
            refine hK.out _ _ ?_ (fun hHeld => ?_)
            · first | exact hHeld | (dsimp only; go_keep)
            clear hK K
            try simp only [Act.put, List.setIfInBounds_toArray, List.set_cons_zero, List.set_cons_succ]
            refine reg_take (v := ?v14) 14 rfl (by kernel_rfl) (by kernel_rfl) (by kernel_rfl) (by rfl) ?hy14 (by assumption) ?_
            case hy14 => (intro w hSw; (try dsimp only at hSw); go_simp; try with_reducible rfl)
            try simp only [Act.put, List.setIfInBounds_toArray, List.set_cons_zero, List.set_cons_succ]
            refine reg_done (by kernel_rfl) ?_
            go_wp2_with fail
            go_region
            all_goals (
              go_wp2_with fail
              go_roundw
              case rel =>
                have hsw : Sort.swp dj j (j - 1) = (dj.setIfInBounds j y).setIfInBounds (j - 1) x := by rw [HX.out, HY.out]; rfl
                refine ⟨j - 1, Sort.swp dj j (j - 1), by first | rfl | (congr 1; omega), by omega, by omega, by simp [Sort.swp, hsj], ?_, ?_, ?_, ?_⟩
                · rw [hsw]
                  exact holds_set (holds_set (show Sort.Holds encU _ g o dj from HJ.out) hj1 y) (by simpa using hj2) x
                · have K := kept_set (B := g) (kept_set (B := g) HJK.out (o + j) (.int .u64 y)) (o + (j - 1)) (.int .u64 x)
                  exact ⟨K.os, K.tape, K.output, K.size, K.block⟩
                · rw [← HJS.out]; simp [World.setCell, World.drew]
                · rw [← HI.out, insInner_go1 ltN a j dj hja (by rw [← HX.out, ← HY.out]; exact hd)]
              case measure => simp [intOf]; omega)
          · have hd : decide (x < y) = false := by simpa using hxy
            go_wp2_with fail
            refine reg_start (fun w' => w'.cell? ⟨g, o + j, none⟩ = some (.int .u64 x) ∧ w'.cell? ⟨g, o + (j - 1), none⟩ = some (.int .u64 y)) (by kernel_rfl) ?_ (fun hHeld => ?_)
            · first | exact ⟨c1, c2⟩ | (dsimp only; go_keep)
            refine reg_take (v := ?v15) 0 rfl (by kernel_rfl) (by kernel_rfl) (by kernel_rfl) (by rfl) ?hy15 (by assumption) ?_
            case hy15 => (intro w hSw; (try dsimp only at hSw); go_simp; try with_reducible rfl)
            try simp only [Act.put, List.setIfInBounds_toArray, List.set_cons_zero, List.set_cons_succ]
            refine reg_take (v := ?v16) 1 rfl (by kernel_rfl) (by kernel_rfl) (by kernel_rfl) (by rfl) ?hy16 (by assumption) ?_
            case hy16 => (intro w hSw; (try dsimp only at hSw); go_simp; try with_reducible rfl)
            try simp only [Act.put, List.setIfInBounds_toArray, List.set_cons_zero, List.set_cons_succ]
            refine reg_take (v := ?v17) 2 rfl (by kernel_rfl) (by kernel_rfl) (by kernel_rfl) (by rfl) ?hy17 (by assumption) ?_
            case hy17 => (intro w hSw; (try dsimp only at hSw); go_simp; try with_reducible rfl)
            try simp only [Act.put, List.setIfInBounds_toArray, List.set_cons_zero, List.set_cons_succ]
            refine reg_take (v := ?v18) 3 rfl (by kernel_rfl) (by kernel_rfl) (by kernel_rfl) (by rfl) ?hy18 (by assumption) ?_
            case hy18 => (intro w hSw; (try dsimp only at hSw); go_simp; try with_reducible rfl)
            try simp only [Act.put, List.setIfInBounds_toArray, List.set_cons_zero, List.set_cons_succ]
            refine reg_take (v := ?v19) 4 rfl (by kernel_rfl) (by kernel_rfl) (by kernel_rfl) (by rfl) ?hy19 (by assumption) ?_
            case hy19 => (intro w hSw; (try dsimp only at hSw); go_simp; try with_reducible rfl)
            try simp only [Act.put, List.setIfInBounds_toArray, List.set_cons_zero, List.set_cons_succ]
            refine reg_take (v := ?v20) 5 rfl (by kernel_rfl) (by kernel_rfl) (by kernel_rfl) (by rfl) ?hy20 (by assumption) ?_
            case hy20 => (intro w hSw; (try dsimp only at hSw); go_simp; try with_reducible rfl)
            try simp only [Act.put, List.setIfInBounds_toArray, List.set_cons_zero, List.set_cons_succ]
            refine reg_take (v := ?v21) 6 rfl (by kernel_rfl) (by kernel_rfl) (by kernel_rfl) (by rfl) ?hy21 (by assumption) ?_
            case hy21 => (intro w hSw; (try dsimp only at hSw); go_simp; try with_reducible rfl)
            try simp only [Act.put, List.setIfInBounds_toArray, List.set_cons_zero, List.set_cons_succ]
            refine reg_take (v := ?v22) 7 rfl (by kernel_rfl) (by kernel_rfl) (by kernel_rfl) (by rfl) ?hy22 (by assumption) ?_
            case hy22 => (intro w hSw; (try dsimp only at hSw); go_simp; try with_reducible rfl)
            try simp only [Act.put, List.setIfInBounds_toArray, List.set_cons_zero, List.set_cons_succ]
            refine reg_take (v := ?v23) 8 rfl (by kernel_rfl) (by kernel_rfl) (by kernel_rfl) (by rfl) ?hy23 (by assumption) ?_
            case hy23 => (intro w hSw; (try dsimp only at hSw); go_simp; try with_reducible rfl)
            try simp only [Act.put, List.setIfInBounds_toArray, List.set_cons_zero, List.set_cons_succ]
            refine reg_take (v := ?v24) 9 rfl (by kernel_rfl) (by kernel_rfl) (by kernel_rfl) (by rfl) ?hy24 (by assumption) ?_
            case hy24 => (intro w hSw; (try dsimp only at hSw); go_simp; try with_reducible rfl)
            try simp only [Act.put, List.setIfInBounds_toArray, List.set_cons_zero, List.set_cons_succ]
            refine reg_take (v := ?v25) 10 rfl (by kernel_rfl) (by kernel_rfl) (by kernel_rfl) (by rfl) ?hy25 (by assumption) ?_
            case hy25 => (intro w hSw; (try dsimp only at hSw); go_simp; try with_reducible rfl)
            try simp only [Act.put, List.setIfInBounds_toArray, List.set_cons_zero, List.set_cons_succ]
            refine reg_take (v := ?v26) 11 rfl (by kernel_rfl) (by kernel_rfl) (by kernel_rfl) (by rfl) ?hy26 (by assumption) ?_
            case hy26 => (intro w hSw; (try dsimp only at hSw); go_simp; try with_reducible rfl)
            try simp only [Act.put, List.setIfInBounds_toArray, List.set_cons_zero, List.set_cons_succ]
            refine reg_take (v := ?v27) 12 rfl (by kernel_rfl) (by kernel_rfl) (by kernel_rfl) (by rfl) ?hy27 (by assumption) ?_
            case hy27 => (intro w hSw; (try dsimp only at hSw); go_simp; try with_reducible rfl)
            try simp only [Act.put, List.setIfInBounds_toArray, List.set_cons_zero, List.set_cons_succ]
            refine reg_one 13 rfl (by kernel_rfl) (fun K hK => ?_)
            go_simp
            have h := less_any x y
            rw [hd] at h
            refine (h _).mono ?_
            clear h
            rintro e w1 ⟨rfl, rfl⟩
            refine hK.out _ _ ?_ (fun hHeld => ?_)
            · first | exact hHeld | (dsimp only; go_keep)
            clear hK K
            try simp only [Act.put, List.setIfInBounds_toArray, List.set_cons_zero, List.set_cons_succ]
            refine reg_take (v := ?v28) 14 rfl (by kernel_rfl) (by kernel_rfl) (by kernel_rfl) (by rfl) ?hy28 (by assumption) ?_
            case hy28 => (intro w hSw; (try dsimp only at hSw); go_simp; try with_reducible rfl)
            try simp only [Act.put, List.setIfInBounds_toArray, List.set_cons_zero, List.set_cons_succ]
            refine reg_done (by kernel_rfl) ?_
            go_wp2_with fail
            go_roundw
            case rel =>
              refine ⟨i + 1, dj, by go_num, by omega, by omega, hsj, HJ.out, ⟨HJK.out.os, HJK.out.tape, HJK.out.output, HJK.out.size, HJK.out.block⟩, HJS.out, ?_⟩
              rw [← HO.out]
              conv => rhs; unfold Sort.insOuter
              rw [if_pos hlt, ← HI.out, insInner_end ltN a j dj (.inr (by rw [← HX.out, ← HY.out]; exact hd))]
            case measure => simp [intOf]; omega
        · have hja2 : decide ((a : Int) < (j : Int)) = false := by simp; omega
          have hja3 : decide (a < j) = false := by simp; omega
          have HJ := Lib.hid hj
          have HJK := Lib.hid hjk
          have HJS := Lib.hid hjs
          have HI := Lib.hid hI
          clear hj hjk hjs hI
          go_wp2_with fail
          refine reg_start (fun _ => True) (by kernel_rfl) ?_ (fun hHeld => ?_)
          · first | exact trivial | (dsimp only; go_keep)
          refine reg_take (v := ?v29) 0 rfl (by kernel_rfl) (by kernel_rfl) (by kernel_rfl) (by rfl) ?hy29 (by assumption) ?_
          case hy29 => (intro w hSw; (try dsimp only at hSw); go_simp; try with_reducible rfl)
          try simp only [Act.put, List.setIfInBounds_toArray, List.set_cons_zero, List.set_cons_succ]
          refine reg_take (v := ?v30) 1 rfl (by kernel_rfl) (by kernel_rfl) (by kernel_rfl) (by rfl) ?hy30 (by assumption) ?_
          case hy30 => (intro w hSw; (try dsimp only at hSw); go_simp; try with_reducible rfl)
          try simp only [Act.put, List.setIfInBounds_toArray, List.set_cons_zero, List.set_cons_succ]
          refine reg_take (v := ?v31) 2 rfl (by kernel_rfl) (by kernel_rfl) (by kernel_rfl) (by rfl) ?hy31 (by assumption) ?_
          case hy31 => (intro w hSw; (try dsimp only at hSw); go_simp; try with_reducible rfl)
          try simp only [Act.put, List.setIfInBounds_toArray, List.set_cons_zero, List.set_cons_succ]
          refine reg_take (v := ?v32) 3 rfl (by kernel_rfl) (by kernel_rfl) (by kernel_rfl) (by rfl) ?hy32 (by assumption) ?_
          case hy32 => (intro w hSw; (try dsimp only at hSw); go_simp; try with_reducible rfl)
          try simp only [Act.put, List.setIfInBounds_toArray, List.set_cons_zero, List.set_cons_succ]
          refine reg_skip 4 rfl (by kernel_rfl) (by kernel_rfl) (by kernel_rfl) (by rfl) (by assumption) ?_
          try simp only [Act.put, List.setIfInBounds_toArray, List.set_cons_zero, List.set_cons_succ]
          refine reg_skip 5 rfl (by kernel_rfl) (by kernel_rfl) (by kernel_rfl) (by rfl) (by assumption) ?_
          try simp only [Act.put, List.setIfInBounds_toArray, List.set_cons_zero, List.set_cons_succ]
          refine reg_skip 6 rfl (by kernel_rfl) (by kernel_rfl) (by kernel_rfl) (by rfl) (by assumption) ?_
          try simp only [Act.put, List.setIfInBounds_toArray, List.set_cons_zero, List.set_cons_succ]
          refine reg_skip 7 rfl (by kernel_rfl) (by kernel_rfl) (by kernel_rfl) (by rfl) (by assumption) ?_
          try simp only [Act.put, List.setIfInBounds_toArray, List.set_cons_zero, List.set_cons_succ]
          refine reg_skip 8 rfl (by kernel_rfl) (by kernel_rfl) (by kernel_rfl) (by rfl) (by assumption) ?_
          try simp only [Act.put, List.setIfInBounds_toArray, List.set_cons_zero, List.set_cons_succ]
          refine reg_skip 9 rfl (by kernel_rfl) (by kernel_rfl) (by kernel_rfl) (by rfl) (by assumption) ?_
          try simp only [Act.put, List.setIfInBounds_toArray, List.set_cons_zero, List.set_cons_succ]
          refine reg_skip 10 rfl (by kernel_rfl) (by kernel_rfl) (by kernel_rfl) (by rfl) (by assumption) ?_
          try simp only [Act.put, List.setIfInBounds_toArray, List.set_cons_zero, List.set_cons_succ]
          refine reg_skip 11 rfl (by kernel_rfl) (by kernel_rfl) (by kernel_rfl) (by rfl) (by assumption) ?_
          try simp only [Act.put, List.setIfInBounds_toArray, List.set_cons_zero, List.set_cons_succ]
          refine reg_skip 12 rfl (by kernel_rfl) (by kernel_rfl) (by kernel_rfl) (by rfl) (by assumption) ?_
          try simp only [Act.put, List.setIfInBounds_toArray, List.set_cons_zero, List.set_cons_succ]
          refine reg_skip 13 rfl (by kernel_rfl) (by kernel_rfl) (by kernel_rfl) (by rfl) (by assumption) ?_
          try simp only [Act.put, List.setIfInBounds_toArray, List.set_cons_zero, List.set_cons_succ]
          refine reg_take (v := ?v33) 14 rfl (by kernel_rfl) (by kernel_rfl) (by kernel_rfl) (by rfl) ?hy33 (by assumption) ?_
          case hy33 => (intro w hSw; (try dsimp only at hSw); go_simp; try with_reducible rfl)
          try simp only [Act.put, List.setIfInBounds_toArray, List.set_cons_zero, List.set_cons_succ]
          refine reg_done (by kernel_rfl) ?_
          go_wp2_with fail
          go_roundw
          case rel =>
            refine ⟨i + 1, dj, by go_num, by omega, by omega, hsj, HJ.out, ⟨HJK.out.os, HJK.out.tape, HJK.out.output, HJK.out.size, HJK.out.block⟩, HJS.out, ?_⟩
            rw [← HO.out]
            conv => rhs; unfold Sort.insOuter
            rw [if_pos hlt, ← HI.out, insInner_end ltN a j dj (.inl (by omega))]
          case measure => simp [intOf]; omega
    · go_wp2_with fail
      go_end0
      refine ⟨rfl, ?_, HKK.out, HKS.out⟩
      have e : Sort.insertionSort ltN d a b = dk := by
        unfold Sort.insertionSort
        rw [← HO.out]
        unfold Sort.insOuter
        rw [if_neg hlt]
      rw [e]
      exact HK.out

end Go.Proofs.YtocmnhjgknaocaaDoor
