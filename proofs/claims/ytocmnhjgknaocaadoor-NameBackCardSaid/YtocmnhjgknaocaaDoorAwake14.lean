import Derived.Test.YtocmnhjgknaocaaDoorOnly
set_option linter.unusedVariables false
set_option linter.unusedSimpArgs false
set_option maxRecDepth 100000
namespace Go.Proofs.YtocmnhjgknaocaaDoor
open Go.RowKit Tb

theorem dig12 : Lib.decDigits 12 = [49, 50] := by simp [Lib.decDigits]
theorem dig0 : Lib.decDigits 0 = [48] := by simp [Lib.decDigits]
theorem dig1 : Lib.decDigits 1 = [49] := by simp [Lib.decDigits]
theorem dig2 : Lib.decDigits 2 = [50] := by simp [Lib.decDigits]
theorem dig3 : Lib.decDigits 3 = [51] := by simp [Lib.decDigits]
theorem of_m12 : nameOf 109 12 = .ok [109, 46, 49, 50] := by unfold nameOf; rw [dig12]; rfl
theorem of_x1 : nameOf 120 1 = .error 1 := rfl
theorem read_e0 : nameRead [101, 46, 48] = some (101, 0) := by
  unfold nameRead
  rw [if_neg (by simp), show Lib.parseUintB 64 (List.drop 2 [101, 46, 48]) = .ok 0 from rfl]
  simp only
  rw [if_pos]
  · rfl
  · unfold nameText nameOf
    rw [dig0]
    rfl
theorem read_e00 : nameRead [101, 46, 48, 48] = none := by
  unfold nameRead
  rw [if_neg (by simp), show Lib.parseUintB 64 (List.drop 2 [101, 46, 48, 48]) = .ok 0 from rfl]
  simp only
  rw [if_neg]
  unfold nameText nameOf
  rw [dig0]
  decide
theorem read_m2 : nameRead [109, 46, 50] = some (109, 2) := by
  unfold nameRead
  rw [if_neg (by simp), show Lib.parseUintB 64 (List.drop 2 [109, 46, 50]) = .ok 2 from rfl]
  simp only
  rw [if_pos]
  · rfl
  · unfold nameText nameOf
    rw [dig2]
    rfl
theorem read_e3 : nameRead [101, 46, 51] = some (101, 3) := by
  unfold nameRead
  rw [if_neg (by simp), show Lib.parseUintB 64 (List.drop 2 [101, 46, 51]) = .ok 3 from rfl]
  simp only
  rw [if_pos]
  · rfl
  · unfold nameText nameOf
    rw [dig3]
    rfl
theorem read_m1 : nameRead [109, 46, 49] = some (109, 1) := by
  unfold nameRead
  rw [if_neg (by simp), show Lib.parseUintB 64 (List.drop 2 [109, 46, 49]) = .ok 1 from rfl]
  simp only
  rw [if_pos]
  · rfl
  · unfold nameText nameOf
    rw [dig1]
    rfl
theorem only_m : onlyNums [[109, 46, 50], [101, 46, 51], [109, 46, 49]] 109 = [2, 1] := by
  simp [onlyNums, numOfKind, read_m2, read_e3, read_m1]
theorem onlyS_m : onlySorted [[109, 46, 50], [101, 46, 51], [109, 46, 49]] 109 = [1, 2] := by
  unfold onlySorted
  rw [only_m]
  simp [Sort.insertionSort, Sort.insOuter, Sort.insInner, Sort.swp, ltN]


set_option maxHeartbeats 1600000 in
theorem awake14_any (w : World) (he : Env w) : Calls Tryd.prog 34 #[] w (RetB w fun v _ => v = .bool true) := by
  have H1 : Hid (∀ W, Env W → Calls Tryd.prog 36 #[.int .u8 109, .int .u64 12] W (RetB W fun v _ => v = .tuple #[.string ⟨#[109, 46, 49, 50]⟩, .int .i64 0])) := fun W hW => by
    have h := nameOf_any 109 12 (by decide) W hW.tab
    rw [of_m12] at h
    exact h
  have H2 : Hid (∀ W, Env W → Calls Tryd.prog 38 #[.string ⟨#[101, 46, 48]⟩] W (RetB W fun v _ => v = .tuple #[.int .u8 101, .int .u64 0, .bool true])) := fun W hW => by
    have h := nameRead_any [101, 46, 48] (by simp) W hW
    rw [read_e0] at h
    exact h
  have H3 : Hid (∀ W, Env W → Calls Tryd.prog 38 #[.string ⟨#[101, 46, 48, 48]⟩] W (RetB W fun v _ => v = .tuple #[.int .u8 0, .int .u64 0, .bool false])) := fun W hW => by
    have h := nameRead_any [101, 46, 48, 48] (by simp) W hW
    rw [read_e00] at h
    exact h
  have H4 : Hid (∀ W, Env W → Calls Tryd.prog 36 #[.int .u8 120, .int .u64 1] W (RetB W fun v _ => v = .tuple #[.string ⟨#[]⟩, .int .i64 1])) := fun W hW => by
    have h := nameOf_any 120 1 (by decide) W hW.tab
    rw [of_x1] at h
    exact h
  go_enter Tryd.func34, Tryd.ntmps34
  go_wp2_with fail
  refine (H1.out _ he).mono ?_
  rintro e w1 ⟨v1, rfl, hb1, rfl⟩
  have he1 := he.below hb1
  go_wp2_with fail
  refine (H2.out _ he1).mono ?_
  rintro e w2 ⟨v2, rfl, hb2, rfl⟩
  have he2 := he1.below hb2
  go_wp2_with fail
  refine (H3.out _ he2).mono ?_
  rintro e w3 ⟨v3, rfl, hb3, rfl⟩
  have he3 := he2.below hb3
  go_wp2_with fail
  refine (H4.out _ he3).mono ?_
  rintro e w4 ⟨v4, rfl, hb4, rfl⟩
  have he4 := he3.below hb4
  go_wp2_with fail
  have hlit : Sl elName (w4.alloc (.cells #[.string ⟨#[109, 46, 50]⟩, .string ⟨#[101, 46, 51]⟩, .string ⟨#[109, 46, 49]⟩] 9)) (fun _ => True) (.slice (some ⟨w4.heap.size, 0, none⟩) 3 3) [[109, 46, 50], [101, 46, 51], [109, 46, 49]] := lit_sl (enc := strV) w4 [[109, 46, 50], [101, 46, 51], [109, 46, 49]] 9 (by simp) trivial
  have hon := only_small_any _ [[109, 46, 50], [101, 46, 51], [109, 46, 49]] 109 _ _ hlit (he4.below (below_alloc (Below.refl _ _) _)) (by simp) (by simp) (by rw [only_m]; simp) (by rw [only_m]; simp)
  rw [onlyS_m] at hon
  refine hon.mono ?_
  rintro e w5 ⟨v5, rfl, hb5, hs5⟩
  go_wp2_with fail
  have hl2 : Sl elU64 (w5.alloc (.cells #[.int .u64 1, .int .u64 2] 22)) (fun _ => True) (.slice (some ⟨w5.heap.size, 0, none⟩) 2 2) [1, 2] := lit_sl (enc := encU) w5 [1, 2] 22 (by simp) trivial
  have hsm := same02_any _ _ [1, 2] [1, 2] _ _ _ (hs5.below (below_alloc (Below.refl _ _) (.cells #[.int .u64 1, .int .u64 2] 22)) Nat.one_pos) hl2
  refine hsm.mono ?_
  rintro e w6 ⟨rfl, hdr⟩
  go_wp2_with fail
  go_ret
  exact ⟨_, rfl, below_step (below_step (below_step (below_step (below_step hb1 hb2) hb3) hb4) (below_al hb5)) (below_al hdr.below), rfl⟩

end Go.Proofs.YtocmnhjgknaocaaDoor
