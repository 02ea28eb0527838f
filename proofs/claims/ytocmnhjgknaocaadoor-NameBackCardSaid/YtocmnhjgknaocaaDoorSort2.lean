import Derived.Test.YtocmnhjgknaocaaDoorSort
set_option linter.unusedVariables false
set_option linter.unusedSimpArgs false
set_option maxRecDepth 100000
namespace Go.Proofs.YtocmnhjgknaocaaDoor
open Go.RowKit Tb

set_option maxHeartbeats 800000 in
theorem pdq_small_any (g o cap : Nat) (lim : Int) (d : Array Nat) (w : World) (hH : Sort.Holds encU w g o d) (h12 : d.size ≤ 12) :
    Calls Tryd.prog 92 #[.slice (some ⟨g, o, none⟩) d.size cap, .int .i64 0, .int .i64 d.size, .int .i64 lim] w (SortPost w g o (Sort.insertionSort ltN d 0 d.size)) := by
  have HI := Lib.hid (insertion_any g o cap 0 d.size d w hH (Nat.zero_le _) (Nat.le_refl _) (by omega))
  have hd : decide ((d.size : Int) ≤ 12) = true := by simp; omega
  clear hH
  go_enter Tryd.func92, Tryd.ntmps92
  go_wp2_with fail
  go_loopw [1, 2] (fun v v2 wr => v = .int .i64 0 ∧ v2 = .int .i64 d.size ∧ wr = w) (fun _ _ _ => 0)
  case atStart => exact ⟨rfl, rfl, rfl⟩
  case round =>
    obtain ⟨rfl, rfl, rfl⟩ := hrel
    go_wp2_with (go_at_call 113; refine HI.out.mono ?_; rintro e w1 ⟨rfl, h1, h2, h3⟩; have H1 := Lib.hid h1; have H2 := Lib.hid h2; have H3 := Lib.hid h3; clear h1 h2 h3)
    go_end0
    exact ⟨rfl, H1.out, H2.out, H3.out⟩

set_option maxHeartbeats 800000 in
theorem sort_small_any (g o cap : Nat) (d : Array Nat) (w : World) (hH : Sort.Holds encU w g o d) (h12 : d.size ≤ 12) :
    Calls Tryd.prog 74 #[.slice (some ⟨g, o, none⟩) d.size cap] w (SortPost w g o (Sort.insertionSort ltN d 0 d.size)) := by
  have HP : Hid (∀ lim : Int, Calls Tryd.prog 92 #[.slice (some ⟨g, o, none⟩) d.size cap, .int .i64 0, .int .i64 d.size, .int .i64 lim] w (SortPost w g o (Sort.insertionSort ltN d 0 d.size))) := fun lim => pdq_small_any g o cap lim d w hH h12
  clear hH
  go_enter Tryd.func74, Tryd.ntmps74
  go_wp2_with (first
    | (go_at_call 93; refine (Tryd.bits_Len (d.size : Int) _ (by omega) (by omega)).mono ?_; rintro e w1 ⟨rfl, rfl⟩)
    | (go_at_call 92; refine (HP.out _).mono ?_; rintro e w1 ⟨rfl, h1, h2, h3⟩; have H1 := Lib.hid h1; have H2 := Lib.hid h2; have H3 := Lib.hid h3; clear h1 h2 h3))
  go_end0
  exact ⟨rfl, H1.out, H2.out, H3.out⟩

end Go.Proofs.YtocmnhjgknaocaaDoor
