import Derived.Test.YtocmnhjgknaocaaDoorFrame3
set_option linter.unusedVariables false
set_option linter.unusedSimpArgs false
set_option maxRecDepth 100000
namespace Go.Proofs.YtocmnhjgknaocaaDoor
open Go.RowKit Tb

set_option maxHeartbeats 400000 in
theorem known_any (k : Int) (w : World) : Calls Tryd.prog 47 #[.int .i64 k] w (Ret (.bool (known k)) w) := by
  unfold known
  by_cases h1 : 1 ≤ k
  · have e1 : decide ((1 : Int) ≤ k) = true := by simp; omega
    by_cases h2 : k ≤ 17
    · have e2 : decide (k ≤ 17) = true := by simp; omega
      rw [e1, e2]
      go_enter Tryd.func47, Tryd.ntmps47
      go_wp2_with fail
      go_ret
      exact ⟨rfl, rfl⟩
    · have e2 : decide (k ≤ 17) = false := by simp; omega
      rw [e1, e2]
      go_enter Tryd.func47, Tryd.ntmps47
      go_wp2_with fail
      go_ret
      exact ⟨rfl, rfl⟩
  · have e1 : decide ((1 : Int) ≤ k) = false := by simp; omega
    rw [e1]
    go_enter Tryd.func47, Tryd.ntmps47
    go_wp2_with fail
    go_ret
    exact ⟨rfl, rfl⟩

set_option maxHeartbeats 400000 in
theorem worded_any (k : Int) (w : World) : Calls Tryd.prog 78 #[.int .i64 k] w (Ret (.bool (worded k)) w) := by
  unfold worded
  rcases h1 : (k == 10) with _ | _
  · rcases h2 : (k == 11) with _ | _
    · rcases h3 : (k == 16) with _ | _ <;>
      · go_enter Tryd.func78, Tryd.ntmps78
        go_wp2_with fail
        go_ret
        exact ⟨rfl, rfl⟩
    · go_enter Tryd.func78, Tryd.ntmps78
      go_wp2_with fail
      go_ret
      exact ⟨rfl, rfl⟩
  · go_enter Tryd.func78, Tryd.ntmps78
    go_wp2_with fail
    go_ret
    exact ⟨rfl, rfl⟩

set_option maxHeartbeats 400000 in
theorem fits_any (k : Int) (m : Nat) (w : World) : Calls Tryd.prog 49 #[.int .i64 k, .int .i64 m] w (Ret (.bool (fits k m)) w) := by
  unfold fits
  rcases h1 : (m == 0) with _ | _
  · have e1 : ((m : Int) == 0) = false := by simp at h1 ⊢; omega
    rcases h2 : worded k with _ | _
    · go_enter Tryd.func49, Tryd.ntmps49
      go_wp2_with (go_at_call 78; refine (worded_any k _).mono ?_; rw [h2]; rintro e w1 ⟨rfl, rfl⟩)
      go_ret
      exact ⟨rfl, rfl⟩
    · rcases h3 : decide (m ≤ 64) with _ | _
      · have e3 : decide ((m : Int) ≤ 64) = false := by simp at h3 ⊢; omega
        go_enter Tryd.func49, Tryd.ntmps49
        go_wp2_with (go_at_call 78; refine (worded_any k _).mono ?_; rw [h2]; rintro e w1 ⟨rfl, rfl⟩)
        go_ret
        exact ⟨rfl, rfl⟩
      · have e3 : decide ((m : Int) ≤ 64) = true := by simp at h3 ⊢; omega
        go_enter Tryd.func49, Tryd.ntmps49
        go_wp2_with (go_at_call 78; refine (worded_any k _).mono ?_; rw [h2]; rintro e w1 ⟨rfl, rfl⟩)
        go_ret
        exact ⟨rfl, rfl⟩
  · have e1 : ((m : Int) == 0) = true := by simp at h1 ⊢; omega
    go_enter Tryd.func49, Tryd.ntmps49
    go_wp2_with fail
    go_ret
    exact ⟨rfl, rfl⟩

def numbersL : List Value := ([0, 0, 5, 2, 1, 2, 2, 1, 1, 1, 1, 1, 5, 7, 10, 2, 1, 1] : List Int).map (.int .i64)
set_option maxHeartbeats 400000 in
theorem numbers_any (w : World) : Calls Tryd.prog 48 #[] w (RetB w fun r _ => r = .agg numbersL.toArray) := by
  go_enter Tryd.func48, Tryd.ntmps48
  go_wp2_with fail
  refine bodyPost_ret (results_val rfl (.cell (cs := numbersL) (by exact Blk.new w _ _) rfl Tryd.underlying97 rfl rfl .nil)) rfl ?_
  exact ⟨_, rfl, below_alloc (Below.refl _ _) _, rfl⟩

end Go.Proofs.YtocmnhjgknaocaaDoor
