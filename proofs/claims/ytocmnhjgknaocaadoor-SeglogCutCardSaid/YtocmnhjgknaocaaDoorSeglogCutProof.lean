/-
  SeglogCut, for every segment, size, records, place and record: a log that is opened at a place of a record has just what stands ahead of it, and goes on from there.
  Condition: the listed package-level variables hold what the program's text lays (tied by the card); the seat's repository is the pruned copy that lies beside its AIM page.
-/
import Derived.Test.YtocmnhjgknaocaaDoorCut2
import Derived.Test.YtocmnhjgknaocaaDoorRecOpen
import Derived.Test.YtocmnhjgknaocaaDoorCards
import Derived.Test.YtocmnhjgknaocaaDoorTie
import Derived.SevenTiedAt
import Derived.OpenShut
set_option linter.unusedVariables false
namespace Go.Proofs.YtocmnhjgknaocaaDoor
open Go.ChangeShapes Go.WideShapes Go.ChangeAt Go.RowKit

set_option maxRecDepth 100000 in
theorem seglogCut_lifted (os : Os) (started : os.Started) (H : Type) (enc : TypeId × Value → H) :
    ReturnsInHanded {} Tryd.checked os 3 .any (fun w args => (Rows.seglogCutSpec.pre enc Tryd.prog Tryd.f3 [] false w args ∧ laidMetH Tryd.prog laidT w) ∧ sizedMet enc Tryd.prog Tryd.f3 (OpenSpec.ofChange Rows.seglogCutSpec) false w args)
      (Rows.seglogCutSpec.post enc Tryd.prog Tryd.f3 false true false false) := by
  refine returnsInHanded_of_change_and (C := Tryd.checked) (X := fun w _ => laidMetH Tryd.prog laidT w) (fun _ _ _ hh h => h.of_heap hh) Tryd.own started (by kernel_rfl) Tryd.func3
    (ChangeSpec.witness_shaped (enc := enc) (C := Tryd.checked) (os := os) (X := fun w _ => laidMetH Tryd.prog laidT w) false (World.doorLaid Tryd.prog 62 os) #[.int .u64 0, .int .i64 0, .slice none 0 0, .int .i64 0, .agg #[.int .i64 0, .slice none 0 0, .string ByteArray.empty]] 8 rfl (World.shaped_of_RefB (by kernel_rfl) (by kernel_rfl)) (by kernel_rfl) (by kernel_rfl) (by kernel_rfl) (doorT_met os _)) ?_
  intro W base args ds gs before hval0 hW _ hwt hL _
  have hval : ∀ (j : Nat) t v, Tryd.f3.params[j]? = some t → args[j]? = some v → Value.okWide Tryd.prog W .any base t v := hval0
  have hW' := hW
  obtain ⟨p, q, hA0, hV, rfl, hfz, hnd⟩ := hW
  have hA : DataW.TrodAll enc Tryd.prog W 0 (fun _ => true) true Tryd.f3.params.toList args.toList ds p := hA0
  rw [Tryd.params3] at hA hval
  obtain ⟨v0, vs0, d0, ds0, p0, q0, e0, rfl, rfl, h0, hA1⟩ := trodAll_cons hA
  obtain ⟨v1, vs1, d1, ds1, p1, q1, rfl, rfl, rfl, h1, hA2⟩ := trodAll_cons hA1
  obtain ⟨v2, vs2, d2, ds2, p2, q2, rfl, rfl, rfl, h2, hA3⟩ := trodAll_cons hA2
  obtain ⟨v3, vs3, d3, ds3, p3, q3, rfl, rfl, rfl, h3, hA4⟩ := trodAll_cons hA3
  obtain ⟨v4, vs4, d4, ds4, p4, q4, rfl, rfl, rfl, h4, hA5⟩ := trodAll_cons hA4
  obtain ⟨rfl, rfl, rfl⟩ := trodAll_nil hA5
  obtain rfl : args = #[v0, v1, v2, v3, v4] := by cases args; simp_all
  obtain ⟨rfl, rfl⟩ := trodVars_none hV
  obtain ⟨a0, rfl, rfl, rfl, w0⟩ := open_int Tryd.underlying22 (hval 0 22 v0 rfl rfl) h0
  obtain ⟨a1, rfl, rfl, rfl, w1⟩ := open_int Tryd.underlying3 (hval 1 3 v1 rfl rfl) h1
  obtain ⟨s2, l2, c2, rfl⟩ := okWide_slice Tryd.underlying23 (hval 2 23 v2 rfl rfl)
  obtain ⟨a3, rfl, rfl, rfl, w3⟩ := open_int Tryd.underlying3 (hval 3 3 v3 rfl rfl) h3
  obtain ⟨cs4, rfl, hsz4⟩ := okWide_struct Tryd.underlying26 (hval 4 26 v4 rfl rfl)
  obtain ⟨fuel2, h2⟩ := h2
  obtain ⟨fuel4, h4⟩ := h4
  obtain ⟨v, rs, hv2, hs2, hn2⟩ := recs_of_trod h2
  obtain ⟨r, u, hv4, hs4, hn4⟩ := rec_of_trod h4
  have hv2' : [Value.slice s2 l2 c2] = [v] := hv2
  injection hv2' with hv2' _
  subst hv2'
  have hv4' : cs4.toList = [.int .i64 r.kind, u, .string ⟨r.text.toArray⟩] := hv4
  obtain rfl : cs4 = #[.int .i64 r.kind, u, .string ⟨r.text.toArray⟩] := by
    cases cs4
    simp at hv4'
    rw [hv4']
  have hE := tab_of_laid hL
  have b0 : 0 ≤ a0 ∧ a0 ≤ 18446744073709551615 := bounds_u64 w0
  obtain ⟨n, rfl⟩ : ∃ n : Nat, a0 = (n : Int) := ⟨a0.toNat, by omega⟩
  have hw := seglogCut_walk W hE n (by omega) a1 _ rs _ hs2 (fun b hb => hb) hn2 a3 r.kind r.n r.text u hs4 hn4
  refine hw.mono ?_
  rintro e W' ⟨v, rfl, hb, rfl⟩
  exact ⟨_, rfl, law_post hW' rfl rfl (by kernel_rfl) (by kernel_rfl) hb⟩

theorem seglogCut_holds : Rows.SeglogCutSaid :=
  OpenClaim.holds_of_wide 3 Tryd.f3 rfl rfl rfl rfl rfl rfl rfl ⟨rfl, rfl, rfl, rfl, rfl⟩ rfl rfl rfl rfl rfl (by kernel_rfl) Tryd.func3 (by kernel_rfl)
    (of_decide_eq_true (by kernel_rfl)) (by unfold Func.isWrapper; first | (rw [if_pos (by decide +kernel)]; kernel_rfl) | (rw [if_neg (by decide +kernel)]; exact ⟨rfl, rfl⟩))
    (fun os started H enc _ => seglogCut_lifted os started H enc)
theorem seglogCut_card : Rows.SeglogCutCardSaid :=
  Claim7.holds_tied_plain_at .later [] [.data, .data, .data] true _ true
    seglogCut_holds (fun _ h => by cases h) (by kernel_rfl) (fun _ h => by cases h) seglogCut_row_tie rfl ⟨rfl, rfl⟩ (by kernel_rfl) rfl
    (fun f fn hf hfn => by
      obtain rfl : f = 3 := Option.some.inj ((show Tryd.prog.funcNamed "tumbrel/tumbrellaw15.SeglogCut" = some 3 by kernel_rfl).symm.trans hf) |>.symm
      obtain rfl : fn = Tryd.f3 := (Option.some.inj (Tryd.func3.symm.trans hfn)).symm
      exact ⟨by kernel_rfl, fun j t ht => by
        rw [Tryd.params3] at ht
        have hm : t ∈ [22, 3, 23, 3, 26] := by simpa using Array.mem_of_getElem? ht
        have hall : ([22, 3, 23, 3, 26].all fun u => !Tryd.prog.wantsStandIn u) = true := by kernel_rfl
        exact (show Tryd.prog.wantsStandIn t = false by simpa using List.all_eq_true.1 hall t hm)⟩)
    (by kernel_rfl)
#print axioms seglogCut_card

end Go.Proofs.YtocmnhjgknaocaaDoor
