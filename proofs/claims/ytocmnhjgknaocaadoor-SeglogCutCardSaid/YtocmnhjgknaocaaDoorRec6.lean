import Derived.Test.YtocmnhjgknaocaaDoorRec5
set_option linter.unusedVariables false
set_option linter.unusedSimpArgs false
set_option maxRecDepth 100000
namespace Go.Proofs.YtocmnhjgknaocaaDoor
open Go.RowKit Tb

set_option maxHeartbeats 800000 in
theorem equalU_any (v u : Value) (xs ys : List Nat) (ok ok' : Nat → Prop) (w : World) (hv : Sl elU64 w ok v xs) (hu : Sl elU64 w ok' u ys) :
    Calls Tryd.prog 79 #[v, u] w (RetD w (.bool (decide (xs = ys)))) := by
  obtain ⟨A, c, rfl, hc1, hc2, hc⟩ := hv.one
  obtain ⟨A2, c2, rfl, hd1, hd2, hd⟩ := hu.one
  clear hv hu
  by_cases hl : xs.length = ys.length
  · have hne : ((xs.length : Int) != (ys.length : Int)) = false := by rw [hl]; simp
    have HL := Lib.hid hl
    clear hl
    go_enter Tryd.func79, Tryd.ntmps79
    go_wp2
    go_loopw [13] (fun i wr => ∃ k m : Nat, k ≤ xs.length ∧ i = .int .i64 k ∧ xs.take k = ys.take k ∧ wr = w.drewN m) (fun i _ => xs.length - (intOf i).toNat)
    case atStart => exact ⟨0, 0, by omega, rfl, rfl, rfl⟩
    case round =>
      obtain ⟨k, m, hk, rfl, heq, rfl⟩ := hrel
      have HE := Lib.hid heq
      clear heq
      by_cases hlt : k < xs.length
      · have hlt2 : k < ys.length := by rw [← HL.out]; exact hlt
        obtain ⟨b, o, rfl, hob, hcell⟩ := hc (by omega)
        obtain ⟨b2, o2, rfl, hob2, hcell2⟩ := hd (by omega)
        have h1 := hcell k hlt
        have h2 := hcell2 k hlt2
        clear hcell hcell2
        have HX : Hid (xs[k] = ys[k] → xs.take (k + 1) = ys.take (k + 1)) := eq_take_succ HE.out hlt hlt2
        have HY : Hid (xs[k] ≠ ys[k] → xs ≠ ys) := fun h e => h (by subst e; rfl)
        generalize xs[k] = x at h1 HX HY
        generalize ys[k] = y at h2 HX HY
        by_cases hxy : x = y
        · have hb : ((x : Int) != (y : Int)) = false := by rw [hxy]; simp
          have HXY := Lib.hid hxy
          clear hxy
          go_wp2
          go_quiet (fail)
          go_wp2
          go_roundw
          case rel => exact ⟨k + 1, _, by omega, by go_num, HX.out HXY.out, rfl⟩
          case measure => simp [intOf]; omega
        · have hb : ((x : Int) != (y : Int)) = true := by
            rw [bne_iff_ne]; intro e; exact hxy (by omega)
          have HXY := Lib.hid hxy
          clear hxy
          go_wp2
          go_quiet (fail)
          go_wp2
          go_ret
          refine ⟨?_, _, World.drewN_drewN ..⟩
          rw [decide_eq_false (HY.out HXY.out)]
          rfl
      · obtain rfl : k = xs.length := by omega
        go_wp2
        go_ret
        have he : xs = ys := by
          have := HE.out
          rw [List.take_of_length_le (Nat.le_refl _), List.take_of_length_le (by rw [HL.out]; exact Nat.le_refl _)] at this
          exact this
        refine ⟨?_, m, rfl⟩
        rw [decide_eq_true he]
        rfl
  · have hne : ((xs.length : Int) != (ys.length : Int)) = true := by rw [bne_iff_ne]; omega
    have HL := Lib.hid hl
    clear hl
    go_enter Tryd.func79, Tryd.ntmps79
    go_wp2
    go_ret
    refine ⟨?_, 0, rfl⟩
    rw [decide_eq_false (fun e => HL.out (by rw [e]))]
    rfl

theorem rec_ext {a b : Rec} (h1 : a.kind = b.kind) (h2 : a.n = b.n) (h3 : a.text = b.text) : a = b := by
  obtain ⟨k, n, t⟩ := a
  obtain ⟨k', n', t'⟩ := b
  simp only at h1 h2 h3
  subst h1; subst h2; subst h3; rfl

set_option maxHeartbeats 1600000 in
theorem recordSame_any (a b : Rec) (ua ub : Value) (ok ok' : Nat → Prop) (w : World) (ha : Sl elU64 w ok ua a.n) (hb : Sl elU64 w ok' ub b.n) :
    Calls Tryd.prog 51 #[.agg #[.int .i64 a.kind, ua, strV a.text], .agg #[.int .i64 b.kind, ub, strV b.text]] w (RetB w fun v _ => v = .bool (decide (a = b))) := by
  obtain ⟨ka, na, ta⟩ := a
  obtain ⟨kb, nb, tb⟩ := b
  have HA := Lib.hid ha
  have HB := Lib.hid hb
  obtain ⟨A, c, e1, hc1, hc2, _⟩ := ha.one
  obtain ⟨A2, c2, e2, hd1, hd2, _⟩ := hb.one
  subst e1
  subst e2
  clear ha hb
  show Calls Tryd.prog 51 #[.agg #[.int .i64 ka, .slice A na.length c, .string ⟨ta.toArray⟩], .agg #[.int .i64 kb, .slice A2 nb.length c2, .string ⟨tb.toArray⟩]] w (RetB w fun v _ => v = .bool (decide ((⟨ka, na, ta⟩ : Rec) = ⟨kb, nb, tb⟩)))
  have hbel : Below w.heap.size w ((w.alloc (.cells #[.int .i64 ka, .slice A na.length c, .string ⟨ta.toArray⟩] 26)).alloc (.cells #[.int .i64 kb, .slice A2 nb.length c2, .string ⟨tb.toArray⟩] 26)) := below_alloc (below_alloc (Below.refl _ _) _) _
  have HBEL := Lib.hid hbel
  clear hbel
  by_cases h1 : ka = kb
  · have e1 : (ka == kb) = true := by rw [h1]; simp
    by_cases h2 : na = nb
    · have HE : Hid (∀ W : World, Below w.heap.size w W → Calls Tryd.prog 79 #[.slice A na.length c, .slice A2 nb.length c2] W (RetD W (.bool true))) := fun W hW => by
        have h := equalU_any _ _ na nb ok ok' W (HA.out.below hW Nat.one_pos) (HB.out.below hW Nat.one_pos)
        rw [decide_eq_true h2] at h
        exact h
      have hd : decide ((⟨ka, na, ta⟩ : Rec) = ⟨kb, nb, tb⟩) = decide (ta = tb) := by
        by_cases h3 : ta = tb
        · rw [decide_eq_true h3, decide_eq_true (rec_ext h1 h2 h3)]
        · rw [decide_eq_false h3, decide_eq_false (fun e => h3 (congrArg Rec.text e))]
      rw [hd]
      clear h1 h2
      go_enter Tryd.func51, Tryd.ntmps51
      go_wp2_with (go_at_call 79; refine (HE.out _ (by exact HBEL.out)).mono ?_; rintro e' w2 ⟨rfl, hdr⟩; obtain ⟨m, rfl⟩ := hdr)
      go_ret
      exact ⟨_, rfl, below_drewN HBEL.out _, congrArg Value.bool (by by_cases h : ta = tb <;> simp [h])⟩
    · have HE : Hid (∀ W : World, Below w.heap.size w W → Calls Tryd.prog 79 #[.slice A na.length c, .slice A2 nb.length c2] W (RetD W (.bool false))) := fun W hW => by
        have h := equalU_any _ _ na nb ok ok' W (HA.out.below hW Nat.one_pos) (HB.out.below hW Nat.one_pos)
        rw [decide_eq_false h2] at h
        exact h
      have hd : decide ((⟨ka, na, ta⟩ : Rec) = ⟨kb, nb, tb⟩) = false := decide_eq_false fun e => h2 (congrArg Rec.n e)
      rw [hd]
      clear h1 h2
      go_enter Tryd.func51, Tryd.ntmps51
      go_wp2_with (go_at_call 79; refine (HE.out _ (by exact HBEL.out)).mono ?_; rintro e' w2 ⟨rfl, hdr⟩; obtain ⟨m, rfl⟩ := hdr)
      go_ret
      exact ⟨_, rfl, below_drewN HBEL.out _, rfl⟩
  · have e1 : (ka == kb) = false := by simpa using h1
    have hd : decide ((⟨ka, na, ta⟩ : Rec) = ⟨kb, nb, tb⟩) = false := decide_eq_false fun e => h1 (congrArg Rec.kind e)
    rw [hd]
    clear h1
    go_enter Tryd.func51, Tryd.ntmps51
    go_wp2_with fail
    go_ret
    exact ⟨_, rfl, HBEL.out, rfl⟩

end Go.Proofs.YtocmnhjgknaocaaDoor
