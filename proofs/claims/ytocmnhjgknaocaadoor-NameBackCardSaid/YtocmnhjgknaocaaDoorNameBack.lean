import Derived.Test.YtocmnhjgknaocaaDoorName3
set_option linter.unusedVariables false
set_option linter.unusedSimpArgs false
set_option maxRecDepth 100000
namespace Go.Proofs.YtocmnhjgknaocaaDoor
open Go.RowKit Tb

theorem new100_create (l : List UInt8) (f : Nat) (h : nameOk l = true) : ((PDisk.new 100).create l f).1 = 0 := by
  have he : (PDisk.new 100).createErr l = 0 := by
    unfold PDisk.createErr
    rw [if_neg (by rw [h]; simp)]
    rfl
  unfold PDisk.create
  rw [he]
  rfl
theorem nameOf_err {k : UInt8} {n : Nat} {e : Int} (h : nameOf k n = .error e) : e = 1 := by
  unfold nameOf at h
  split at h
  · cases h
  · injection h with h; exact h.symm

set_option maxHeartbeats 3200000 in
theorem nameBack_walk (k : UInt8) (n : Nat) (hn : n < 18446744073709551616) (s : List UInt8) (w : World) (he : Env w) :
    Calls Tryd.prog 8 #[.int .u8 k.toNat, .int .u64 n, .string ⟨s.toArray⟩] w (RetB w fun v _ => v = .bool true) := by
  have hlit : ∀ W : World, Sl elName (W.alloc (.cells #[.string ⟨s.toArray⟩] 9)) (fun _ => True) (.slice (some ⟨W.heap.size, 0, none⟩) 1 1) [s] := fun W => lit_sl (enc := strV) W [s] 9 (by simp) trivial
  by_cases h300 : 300 < s.length
  · have hlg : largeNames [s] = true := by simp [largeNames, h300]
    go_enter Tryd.func8, Tryd.ntmps8
    go_wp2_with fail
    refine (awake14_any _ he).mono ?_
    rintro e w1 ⟨v1, rfl, hb1, rfl⟩
    go_wp2_with fail
    refine (large14_any _ [s] _ _ (hlit w1)).mono ?_
    rw [hlg]
    rintro e w2 ⟨rfl, rfl⟩
    go_wp2_with fail
    go_ret
    exact ⟨_, rfl, below_alloc hb1 _, rfl⟩
  · have hlg : largeNames [s] = false := by simp [largeNames, h300]
    have hsl : s.length ≤ 1000000000 := by omega
    clear h300
    have HRD : Hid (∀ W, Env W → Calls Tryd.prog 38 #[.string ⟨s.toArray⟩] W (RetB W fun r _ => r = nameReadV (nameRead s))) := fun W hW => nameRead_any s hsl W hW
    have HOF : Hid (∀ W, Env W → Calls Tryd.prog 36 #[.int .u8 k.toNat, .int .u64 n] W (RetB W fun v _ => NamePost (nameOf k n) v)) := fun W hW => nameOf_any k n hn W hW.tab
    rcases hof : nameOf k n with e | l
    · rw [hof] at HOF
      obtain rfl := nameOf_err hof
      clear hof
      rcases hrd : nameRead s with _ | ⟨k2, m⟩
      · rw [hrd] at HRD
        go_enter Tryd.func8, Tryd.ntmps8
        go_wp2_with fail
        refine (awake14_any _ he).mono ?_
        rintro e w1 ⟨v1, rfl, hb1, rfl⟩
        go_wp2_with fail
        refine (large14_any _ [s] _ _ (hlit w1)).mono ?_
        rw [hlg]
        rintro e w2 ⟨rfl, rfl⟩
        have hb2 := below_alloc hb1 (.cells #[.string ⟨s.toArray⟩] 9)
        have he2 := he.below hb2
        go_wp2_with fail
        refine (HOF.out _ he2).mono ?_
        rintro e w3 ⟨v3, rfl, hb3, rfl⟩
        have he3 := he2.below hb3
        go_wp2_with fail
        refine (HRD.out _ he3).mono ?_
        rintro e w4 ⟨v4, rfl, hb4, rfl⟩
        simp only [nameReadV]
        go_wp2_with fail
        go_ret
        exact ⟨_, rfl, below_step (below_step hb2 hb3) hb4, rfl⟩
      · rw [hrd] at HRD
        have hb := nameOf_read hrd
        have hmm := (nameOf_ok hb).2.1
        have HO2 : Hid (∀ W, Env W → Calls Tryd.prog 36 #[.int .u8 k2.toNat, .int .u64 m] W (RetB W fun v _ => NamePost (.ok s) v)) := fun W hW => by
          have h := nameOf_any k2 m (by omega) W hW.tab
          rw [hb] at h
          exact h
        clear hrd hb hmm
        go_enter Tryd.func8, Tryd.ntmps8
        go_wp2_with fail
        refine (awake14_any _ he).mono ?_
        rintro e w1 ⟨v1, rfl, hb1, rfl⟩
        go_wp2_with fail
        refine (large14_any _ [s] _ _ (hlit w1)).mono ?_
        rw [hlg]
        rintro e w2 ⟨rfl, rfl⟩
        have hb2 := below_alloc hb1 (.cells #[.string ⟨s.toArray⟩] 9)
        have he2 := he.below hb2
        go_wp2_with fail
        refine (HOF.out _ he2).mono ?_
        rintro e w3 ⟨v3, rfl, hb3, rfl⟩
        have he3 := he2.below hb3
        go_wp2_with fail
        refine (HRD.out _ he3).mono ?_
        rintro e w4 ⟨v4, rfl, hb4, rfl⟩
        have he4 := he3.below hb4
        simp only [nameReadV]
        go_wp2_with fail
        refine (HO2.out _ he4).mono ?_
        rintro e w5 ⟨v5, rfl, hb5, rfl⟩
        go_wp2_with fail
        go_ret
        exact ⟨_, rfl, below_step (below_step (below_step hb2 hb3) hb4) hb5, rfl⟩
    · rw [hof] at HOF
      have HRA : Hid (∀ W, Env W → Calls Tryd.prog 38 #[.string ⟨l.toArray⟩] W (RetB W fun r _ => r = nameReadV (some (k, n)))) := fun W hW => by
        have hl := dec_len (nameOf_ok hof).2.1
        have h := nameRead_any l (by rw [(nameOf_ok hof).2.2]; simp; omega) W hW
        rw [nameRead_of hof] at h
        exact h
      have hok := nameOk_of hof
      have hll : l.length ≤ 1000000000 := by
        have hl := dec_len (nameOf_ok hof).2.1
        rw [(nameOf_ok hof).2.2]; simp; omega
      have HOK := Lib.hid hok
      have HLL := Lib.hid hll
      clear hof hok hll
      have e1 : ((k.toNat : Int) != (k.toNat : Int)) = false := by simp
      have e2 : ((n : Int) != (n : Int)) = false := by simp
      rcases hrd : nameRead s with _ | ⟨k2, m⟩
      · rw [hrd] at HRD
        go_enter Tryd.func8, Tryd.ntmps8
        go_wp2_with fail
        refine (awake14_any _ he).mono ?_
        rintro e w1 ⟨v1, rfl, hb1, rfl⟩
        go_wp2_with fail
        refine (large14_any _ [s] _ _ (hlit w1)).mono ?_
        rw [hlg]
        rintro e w2 ⟨rfl, rfl⟩
        have hb2 := below_alloc hb1 (.cells #[.string ⟨s.toArray⟩] 9)
        have he2 := he.below hb2
        go_wp2_with fail
        refine (HOF.out _ he2).mono ?_
        rintro e w3 ⟨v3, rfl, hb3, rfl⟩
        have he3 := he2.below hb3
        go_wp2_with fail
        refine (HRA.out _ he3).mono ?_
        rintro e w4 ⟨v4, rfl, hb4, rfl⟩
        have he4 := he3.below hb4
        simp only [nameReadV]
        go_wp2_with fail
        refine (new_any 100 _).mono ?_
        rintro e w5 ⟨v5, rfl, hb5, hp5⟩
        obtain ⟨D, mS, rfl, hD⟩ := hp5
        have he5 := he4.below hb5
        unfold ptrV
        go_wp2_with fail
        refine (create_any hD l HLL.out (by decide) (by decide)).mono ?_
        rintro e w6 ⟨f, mT', vT', bv', hf, rfl, hD6, hk6⟩
        rw [new100_create l f HOK.out]
        have hb6 : Below w4.heap.size w4 w6 := hb5.trans (hk6.below hb5.size (fun k hk h => by omega))
        have he6 := he4.below hb6
        clear hD hD6 hk6 hb5 he5
        go_wp2_with fail
        refine (HRD.out _ he6).mono ?_
        rintro e w7 ⟨v7, rfl, hb7, rfl⟩
        simp only [nameReadV]
        go_wp2_with fail
        go_ret
        exact ⟨_, rfl, below_step (below_step (below_step (below_step hb2 hb3) hb4) hb6) hb7, rfl⟩
      · rw [hrd] at HRD
        have hb := nameOf_read hrd
        have hmm := (nameOf_ok hb).2.1
        have HO2 : Hid (∀ W, Env W → Calls Tryd.prog 36 #[.int .u8 k2.toNat, .int .u64 m] W (RetB W fun v _ => NamePost (.ok s) v)) := fun W hW => by
          have h := nameOf_any k2 m (by omega) W hW.tab
          rw [hb] at h
          exact h
        clear hrd hb hmm
        go_enter Tryd.func8, Tryd.ntmps8
        go_wp2_with fail
        refine (awake14_any _ he).mono ?_
        rintro e w1 ⟨v1, rfl, hb1, rfl⟩
        go_wp2_with fail
        refine (large14_any _ [s] _ _ (hlit w1)).mono ?_
        rw [hlg]
        rintro e w2 ⟨rfl, rfl⟩
        have hb2 := below_alloc hb1 (.cells #[.string ⟨s.toArray⟩] 9)
        have he2 := he.below hb2
        go_wp2_with fail
        refine (HOF.out _ he2).mono ?_
        rintro e w3 ⟨v3, rfl, hb3, rfl⟩
        have he3 := he2.below hb3
        go_wp2_with fail
        refine (HRA.out _ he3).mono ?_
        rintro e w4 ⟨v4, rfl, hb4, rfl⟩
        have he4 := he3.below hb4
        simp only [nameReadV]
        go_wp2_with fail
        refine (new_any 100 _).mono ?_
        rintro e w5 ⟨v5, rfl, hb5, hp5⟩
        obtain ⟨D, mS, rfl, hD⟩ := hp5
        have he5 := he4.below hb5
        unfold ptrV
        go_wp2_with fail
        refine (create_any hD l HLL.out (by decide) (by decide)).mono ?_
        rintro e w6 ⟨f, mT', vT', bv', hf, rfl, hD6, hk6⟩
        rw [new100_create l f HOK.out]
        have hb6 : Below w4.heap.size w4 w6 := hb5.trans (hk6.below hb5.size (fun k hk h => by omega))
        have he6 := he4.below hb6
        clear hD hD6 hk6 hb5 he5
        go_wp2_with fail
        refine (HRD.out _ he6).mono ?_
        rintro e w7 ⟨v7, rfl, hb7, rfl⟩
        have he7 := he6.below hb7
        simp only [nameReadV]
        go_wp2_with fail
        refine (HO2.out _ he7).mono ?_
        rintro e w8 ⟨v8, rfl, hb8, rfl⟩
        go_wp2_with fail
        go_ret
        exact ⟨_, rfl, below_step (below_step (below_step (below_step (below_step hb2 hb3) hb4) hb6) hb7) hb8, rfl⟩

end Go.Proofs.YtocmnhjgknaocaaDoor
