/-
  NameBack, for every letter, number and text: names come back from letter and number, and these from names; a name may be a file's.
  Condition: the listed package-level variables hold what the program's text lays (tied by the card); the seat's repository is the pruned copy that lies beside its AIM page.
-/
import Derived.Test.YtocmnhjgknaocaaDoorNameBack
import Derived.Test.YtocmnhjgknaocaaDoorLaidErrs
import Derived.Test.YtocmnhjgknaocaaDoorCards
import Derived.Test.YtocmnhjgknaocaaDoorTie
import Derived.SevenTiedAt
import Derived.OpenShut
import Derived.ShutString
set_option linter.unusedVariables false
namespace Go.Proofs.YtocmnhjgknaocaaDoor
open Go.ChangeShapes Go.WideShapes Go.ChangeAt Go.RowKit
open Go.ChangeMaps (open_string shut_string)

set_option maxRecDepth 100000 in
theorem nameBack_lifted (os : Os) (started : os.Started) (H : Type) (enc : TypeId × Value → H) :
    ReturnsInHanded {} Tryd.checked os 8 .any (fun w args => (Rows.nameBackSpec.pre enc Tryd.prog Tryd.f8 [] false w args ∧ laidMetH Tryd.prog laidE w) ∧ sizedMet enc Tryd.prog Tryd.f8 (OpenSpec.ofChange Rows.nameBackSpec) false w args)
      (Rows.nameBackSpec.post enc Tryd.prog Tryd.f8 false true false false) := by
  refine returnsInHanded_of_change_and (C := Tryd.checked) (X := fun w _ => laidMetH Tryd.prog laidE w) (fun _ _ _ hh h => h.of_heap hh) Tryd.own started (by kernel_rfl) Tryd.func8
    (ChangeSpec.witness_shaped (enc := enc) (C := Tryd.checked) (os := os) (X := fun w _ => laidMetH Tryd.prog laidE w) false (World.doorLaid Tryd.prog 62 os) #[.int .u8 0, .int .u64 0, .string ByteArray.empty] 8 rfl (World.shaped_of_RefB (by kernel_rfl) (by kernel_rfl)) (by kernel_rfl) (by kernel_rfl) (by kernel_rfl) (doorE_met os _)) ?_
  intro W base args ds gs before hval0 hW _ hwt hL _
  have hval : ∀ (j : Nat) t v, Tryd.f8.params[j]? = some t → args[j]? = some v → Value.okWide Tryd.prog W .any base t v := hval0
  have hW' := hW
  obtain ⟨p, q, hA0, hV, rfl, hfz, hnd⟩ := hW
  have hA : DataW.TrodAll enc Tryd.prog W 0 (fun _ => true) true Tryd.f8.params.toList args.toList ds p := hA0
  rw [Tryd.params8] at hA hval
  obtain ⟨v0, v1, v2, d0, d1, d2, p0, p1, p2, rfl, rfl, rfl, h0, h1, h2⟩ := trodAll_three hA
  obtain ⟨rfl, rfl⟩ := trodVars_none hV
  obtain ⟨a0, rfl, rfl, rfl, w0⟩ := open_int Tryd.underlying5 (hval 0 5 v0 rfl rfl) h0
  obtain ⟨a1, rfl, rfl, rfl, w1⟩ := open_int Tryd.underlying22 (hval 1 22 v1 rfl rfl) h1
  obtain ⟨a2, rfl, rfl, rfl, w2⟩ := open_string Tryd.underlying9 (hval 2 9 v2 rfl rfl) h2
  have hE := env_of_laid hL
  have b0 : 0 ≤ a0 ∧ a0 ≤ 255 := bounds_u8 w0
  have b1 : 0 ≤ a1 ∧ a1 ≤ 18446744073709551615 := bounds_u64 w1
  obtain ⟨k, rfl⟩ : ∃ k : UInt8, a0 = (k.toNat : Int) := ⟨UInt8.ofNat a0.toNat, by rw [UInt8.toNat_ofNat']; omega⟩
  obtain ⟨n, rfl⟩ : ∃ n : Nat, a1 = (n : Int) := ⟨a1.toNat, by omega⟩
  obtain ⟨⟨l⟩⟩ := a2
  have hw := nameBack_walk k n (by omega) l W hE
  refine hw.mono ?_
  rintro e W' ⟨v, rfl, hb, rfl⟩
  exact ⟨_, rfl, law_post hW' rfl rfl (by kernel_rfl) (by kernel_rfl) hb⟩

theorem nameBack_holds : Rows.NameBackSaid :=
  OpenClaim.holds_of_wide 8 Tryd.f8 rfl rfl rfl rfl rfl rfl rfl ⟨rfl, rfl, rfl, rfl, rfl⟩ rfl rfl rfl rfl rfl (by kernel_rfl) Tryd.func8 (by kernel_rfl)
    (of_decide_eq_true (by kernel_rfl)) (by unfold Func.isWrapper; first | (rw [if_pos (by decide +kernel)]; kernel_rfl) | (rw [if_neg (by decide +kernel)]; exact ⟨rfl, rfl⟩))
    (fun os started H enc _ => nameBack_lifted os started H enc)
theorem nameBack_card : Rows.NameBackCardSaid :=
  Claim7.holds_tied_plain_at .later [] [.data, .data, .data, .sentinel, .sentinel] true _ true
    nameBack_holds (fun _ h => by cases h) (by kernel_rfl) (fun _ h => by cases h) nameBack_row_tie rfl ⟨rfl, rfl⟩ (by kernel_rfl) rfl
    (fun f fn hf hfn => by
      obtain rfl : f = 8 := Option.some.inj ((show Tryd.prog.funcNamed "tumbrel/tumbrellaw14.NameBack" = some 8 by kernel_rfl).symm.trans hf) |>.symm
      obtain rfl : fn = Tryd.f8 := (Option.some.inj (Tryd.func8.symm.trans hfn)).symm
      exact ⟨by kernel_rfl, fun j t ht => by
        rw [Tryd.params8] at ht
        have hm : t ∈ [5, 22, 9] := by simpa using Array.mem_of_getElem? ht
        have hall : ([5, 22, 9].all fun u => !Tryd.prog.wantsStandIn u) = true := by kernel_rfl
        exact (show Tryd.prog.wantsStandIn t = false by simpa using List.all_eq_true.1 hall t hm)⟩)
    (by kernel_rfl)
#print axioms nameBack_card

end Go.Proofs.YtocmnhjgknaocaaDoor
