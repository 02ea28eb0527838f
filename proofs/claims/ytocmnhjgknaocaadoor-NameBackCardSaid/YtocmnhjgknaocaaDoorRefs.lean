import Derived.Test.YtocmnhjgknaocaaDoorDisk7
import Derived.Test.YtocmnhjgknaocaaDoorName2
set_option linter.unusedVariables false
set_option linter.unusedSimpArgs false
set_option maxRecDepth 100000
namespace Go.Proofs.YtocmnhjgknaocaaDoor
open Go.RowKit Tb

def elName : El (List UInt8) := elOne strV
def largeNames (l : List (List UInt8)) : Bool := decide (200 < l.length) || l.any fun s => decide (300 < s.length)

set_option maxHeartbeats 800000 in
theorem large14_any (v : Value) (l : List (List UInt8)) (ok : Nat → Prop) (w : World) (hv : Sl elName w ok v l) : Calls Tryd.prog 35 #[v] w (Ret (.bool (largeNames l)) w) := by
  obtain ⟨A, c, rfl, hc1, hc2, hc⟩ := hv.one
  clear hv
  by_cases h200 : 200 < l.length
  · have hd : decide ((200 : Int) < (l.length : Int)) = true := by simp; omega
    have hq : largeNames l = true := by simp [largeNames, h200]
    rw [hq]
    go_enter Tryd.func35, Tryd.ntmps35
    go_wp2_with fail
    go_ret
    exact ⟨rfl, rfl⟩
  · have hd : decide ((200 : Int) < (l.length : Int)) = false := by simp; omega
    have hq : largeNames l = l.any fun s => decide (300 < s.length) := by simp [largeNames, h200]
    rw [hq]
    clear hq
    go_enter Tryd.func35, Tryd.ntmps35
    go_wp2_with fail
    go_loop [3] (fun i => ∃ k : Nat, k ≤ l.length ∧ i = .int .i64 k ∧ ((l.take k).any fun s => decide (300 < s.length)) = false) (fun i => l.length - (intOf i).toNat)
    case atStart => exact ⟨0, by omega, rfl, rfl⟩
    case round =>
      obtain ⟨k, hk, rfl, hall⟩ := hrel
      by_cases hlt : k < l.length
      · obtain ⟨b, o, rfl, hob, hcell⟩ := hc (by omega)
        have hck := hcell k hlt
        have HN : Hid (decide (300 < l[k].length) = false → ((l.take (k + 1)).any fun s => decide (300 < s.length)) = false) := fun ho => by
          rw [List.take_succ_eq_append_getElem hlt, List.any_append, hall]; simp [ho]
        have HD : Hid (decide (300 < l[k].length) = true → (l.any fun s => decide (300 < s.length)) = true) := fun ho => by
          rw [List.any_eq_true]
          exact ⟨l[k], List.getElem_mem _, ho⟩
        clear hcell hall
        generalize l[k] = x at hck HN HD
        have hck2 : w.cell? ⟨b, o + k, none⟩ = some (.string ⟨x.toArray⟩) := hck
        clear hck
        by_cases hx : 300 < x.length
        · have hd3 : decide ((300 : Int) < (x.length : Int)) = true := by simp; omega
          have HX := Lib.hid hx
          clear hx
          go_wp2_with fail
          go_ret
          exact ⟨by rw [HD.out (decide_eq_true HX.out)]; rfl, rfl⟩
        · have hd3 : decide ((300 : Int) < (x.length : Int)) = false := by simp; omega
          have HX := Lib.hid hx
          clear hx
          go_wp2_with fail
          go_round
          case rel => exact ⟨k + 1, by omega, by go_num, HN.out (decide_eq_false HX.out)⟩
          case measure => simp [intOf]; omega
      · have HA : Hid ((l.any fun s => decide (300 < s.length)) = false) := by
          unfold Hid
          rw [List.take_of_length_le (by omega)] at hall
          exact hall
        clear hall
        obtain rfl : k = l.length := by omega
        go_wp2_with fail
        go_ret
        exact ⟨by rw [HA.out]; rfl, rfl⟩

set_option maxHeartbeats 800000 in
theorem same02_any (v u : Value) (xs ys : List Nat) (ok ok' : Nat → Prop) (w : World) (hv : Sl elU64 w ok v xs) (hu : Sl elU64 w ok' u ys) :
    Calls Tryd.prog 40 #[v, u] w (RetD w (.bool (decide (xs = ys)))) := by
  obtain ⟨A, c, rfl, hc1, hc2, hc⟩ := hv.one
  obtain ⟨A2, c2, rfl, hd1, hd2, hd⟩ := hu.one
  clear hv hu
  by_cases hl : xs.length = ys.length
  · have hne : ((xs.length : Int) != (ys.length : Int)) = false := by rw [hl]; simp
    have HL := Lib.hid hl
    clear hl
    go_enter Tryd.func40, Tryd.ntmps40
    go_wp2
    go_loopw [5] (fun i wr => ∃ k m : Nat, k ≤ xs.length ∧ i = .int .i64 k ∧ xs.take k = ys.take k ∧ wr = w.drewN m) (fun i _ => xs.length - (intOf i).toNat)
    case atStart => exact ⟨0, 0, by omega, rfl, rfl, rfl⟩
    case round =>
      obtain ⟨k, m, hk, rfl, heq, rfl⟩ := hrel
      have HE := Lib.hid heq
      clear heq
      by_cases hlt : k < xs.length
      · have hlt2 : k < ys.length := by rw [← HL.out]; exact hlt
        obtain ⟨b, o, rfl, hob, hcell⟩ := hc (by omega)
        obtain ⟨b2, o2, rfl, hob2, hcell2⟩ := hd (by omega)
        have h1 := hcell k hlt
        have h2 := hcell2 k hlt2
        clear hcell hcell2
        have HX : Hid (xs[k] = ys[k] → xs.take (k + 1) = ys.take (k + 1)) := eq_take_succ HE.out hlt hlt2
        have HY : Hid (xs[k] ≠ ys[k] → xs ≠ ys) := fun h e => h (by subst e; rfl)
        generalize xs[k] = x at h1 HX HY
        generalize ys[k] = y at h2 HX HY
        by_cases hxy : x = y
        · have hb : ((x : Int) != (y : Int)) = false := by rw [hxy]; simp
          have HXY := Lib.hid hxy
          clear hxy
          go_wp2
          go_quiet (fail)
          go_wp2
          go_roundw
          case rel => exact ⟨k + 1, _, by omega, by go_num, HX.out HXY.out, rfl⟩
          case measure => simp [intOf]; omega
        · have hb : ((x : Int) != (y : Int)) = true := by
            rw [bne_iff_ne]; intro e; exact hxy (by omega)
          have HXY := Lib.hid hxy
          clear hxy
          go_wp2
          go_quiet (fail)
          go_wp2
          go_ret
          refine ⟨?_, _, World.drewN_drewN ..⟩
          rw [decide_eq_false (HY.out HXY.out)]
          rfl
      · obtain rfl : k = xs.length := by omega
        go_wp2
        go_ret
        have he : xs = ys := by
          have := HE.out
          rw [List.take_of_length_le (Nat.le_refl _), List.take_of_length_le (by rw [HL.out]; exact Nat.le_refl _)] at this
          exact this
        refine ⟨?_, m, rfl⟩
        rw [decide_eq_true he]
        rfl
  · have hne : ((xs.length : Int) != (ys.length : Int)) = true := by rw [bne_iff_ne]; omega
    have HL := Lib.hid hl
    clear hl
    go_enter Tryd.func40, Tryd.ntmps40
    go_wp2
    go_ret
    refine ⟨?_, 0, rfl⟩
    rw [decide_eq_false (fun e => HL.out (by rw [e]))]
    rfl

end Go.Proofs.YtocmnhjgknaocaaDoor
