import Derived.Test.YtocmnhjgknaocaaDoorSum2
import Derived.RegionCalls
import Derived.Deep.RegionWith
set_option linter.unusedVariables false
set_option linter.unusedSimpArgs false
set_option maxRecDepth 100000
namespace Go.Proofs.YtocmnhjgknaocaaDoor
open Go.RowKit Tb

theorem crcMore_lt (s : Nat) (xs : List UInt8) : crcMore s xs < 4294967296 := by unfold crcMore; omega

theorem of_any (v : Value) (xs : List UInt8) (ok : Nat → Prop) (w : World) (hv : Sl elU8 w ok v xs) : Calls Tryd.prog 99 #[v] w (RetB w fun r w' => r = .int .u32 (crc xs)) := by
  have hv0 := hv
  obtain ⟨A, c, rfl, hc1, hc2, hc⟩ := hv.one
  have HV := Lib.hid hv0
  clear hv hv0 hc
  go_enter Tryd.func99, Tryd.ntmps99
  go_wp2_with (go_at_call 127; refine (more_any 0 (by omega) _ xs ok _ HV.out).mono ?_; rintro e w1 ⟨v1, rfl, hb1, rfl⟩)
  go_ret
  exact ⟨_, rfl, hb1, rfl⟩

/-- Bytes that are owned, from a block on. -/
def OwnB (w : World) (base : Nat) (v : Value) (xs : List UInt8) : Prop := w.ownsRow base 5 1 v xs.length (xs.map fun b => Value.int .u8 b.toNat)
theorem OwnB.sl {w : World} {base : Nat} {v : Value} {xs : List UInt8} (h : OwnB w base v xs) : Sl elU8 w (fun b => base ≤ b) v xs := (own_sl h).1
theorem OwnB.below {w w1 : World} {base : Nat} {v : Value} {xs : List UInt8} (h : OwnB w base v xs) (hb : Below w.heap.size w w1) : OwnB w1 base v xs := own_below h hb
theorem OwnB.less {w : World} {base b : Nat} {v : Value} {xs : List UInt8} (h : OwnB w b v xs) (hle : base ≤ b) : OwnB w base v xs := by
  refine ⟨h.1, ?_⟩
  rcases h.2 with h2 | ⟨g, cap, cur, hv, hg, r⟩
  · exact .inl h2
  · exact .inr ⟨g, cap, cur, hv, Nat.le_trans hle hg, r⟩
theorem OwnB.lit (w : World) (xs : List UInt8) (hl : xs.length ≤ 9223372036854775807) : OwnB (w.alloc (.cells (xs.map fun b => Value.int .u8 b.toNat).toArray 5)) w.heap.size (.slice (some ⟨w.heap.size, 0, none⟩) xs.length xs.length) xs := by
  have h := World.ownsRow_lit (base := w.heap.size) (e := 5) (size := 1) w (xs.map fun b => Value.int .u8 b.toNat).toArray xs.length (Nat.le_refl _) (by simpa [maxLen] using hl) (by simp)
  simpa [OwnB] using h

theorem u8_lo (n : Nat) : ((n : Int) % 256) = ((UInt8.ofNat n).toNat : Int) := by simp [UInt8.toNat_ofNat']
set_option maxHeartbeats 400000 in
theorem four_any (n : Nat) (hn : n < 4294967296) (w : World) : Calls Tryd.prog 98 #[.int .u32 n] w (RetB w fun v w' => OwnB w' w.heap.size v (four n)) := by
  go_enter Tryd.func98, Tryd.ntmps98
  go_wp2
  go_ret
  refine ⟨_, rfl, below_alloc (Below.refl _ _) _, ?_⟩
  have h := OwnB.lit w (four n) (by rw [four_length]; omega)
  have e : (four n).map (fun b => Value.int .u8 b.toNat) = [.int .u8 ((n : Int) % 256), .int .u8 ((n : Int) / 256 % 256), .int .u8 ((n : Int) / 65536 % 256), .int .u8 ((n : Int) / 16777216 % 256)] := by
    simp only [four, List.map_cons, List.map_nil]
    rw [← u8_lo, ← u8_lo, ← u8_lo, ← u8_lo]
    rfl
  rw [e, show (n : Int) / 16777216 % 256 = (n : Int) / 16777216 from by omega] at h
  exact h

/-- A literal of two rows. -/
theorem pair_sl {α : Type} {k : El α} {hs : 0 < k.sz} {W : World} {ok : Nat → Prop} {u1 u2 : Value} {xs1 xs2 : List α} (t : TypeId) (h1 : Sl k W ok u1 xs1) (h2 : Sl k W ok u2 xs2) (hok : ok W.heap.size) :
    Sl (elSl k hs) (W.alloc (.cells #[u1, u2] t)) ok (.slice (some ⟨W.heap.size, 0, none⟩) 2 2) [xs1, xs2] := by
  have hb : Below W.heap.size W (W.alloc (.cells #[u1, u2] t)) := below_alloc (Below.refl _ _) _
  have hB := Blk.new W [u1, u2] t
  refine ⟨some ⟨W.heap.size, 0, none⟩, 2, rfl, by simp, by omega, fun _ => ⟨W.heap.size, 0, rfl, hok, fun j hj => ?_⟩⟩
  have hj2 : j < 2 := hj
  match j, hj2 with
  | 0, _ => exact ⟨[u1], ⟨u1, rfl, h1.below hb hs⟩, fun i hi => by
      have : i = 0 := by have h : i < 1 := hi; omega
      subst this
      exact hB.cell 0⟩
  | 1, _ => exact ⟨[u2], ⟨u2, rfl, h2.below hb hs⟩, fun i hi => by
      have : i = 0 := by have h : i < 1 := hi; omega
      subst this
      exact hB.cell 1⟩

set_option maxHeartbeats 400000 in
theorem put_any (v : Value) (xs : List UInt8) (ok : Nat → Prop) (w : World) (hv : Sl elU8 w ok v xs) (hl : xs.length ≤ 1000000000000) : Calls Tryd.prog 85 #[v] w (RetB w fun r w' => OwnB w' w.heap.size r (sumPut xs)) := by
  have hv0 := hv
  obtain ⟨A, c, rfl, hc1, hc2, hc⟩ := hv.one
  have HV := Lib.hid hv0
  clear hv hv0 hc
  have hlt := crcMore_lt 0 xs
  go_enter Tryd.func85, Tryd.ntmps85
  go_wp2_with (first | (go_at_call 99; refine (of_any _ xs ok _ HV.out).mono ?_; rintro e w1 ⟨v1, rfl, hb1, rfl⟩) | (go_at_call 98; refine (four_any _ hlt _).mono ?_; rintro e w2 ⟨v2, rfl, hb2, ho2⟩; obtain ⟨A2, c2, rfl, _, _, _⟩ := ho2.sl.one))
  have hbel := below_step hb1 hb2
  have h1 : Sl elU8 w2 (fun _ => True) (.slice A xs.length c) xs := (HV.out.below hbel Nat.one_pos).weak (fun _ _ _ => trivial) Nat.one_pos
  have h2 : Sl elU8 w2 (fun _ => True) (.slice A2 (four (crc xs)).length c2) (four (crc xs)) := ho2.sl.weak (fun _ _ _ => trivial) Nat.one_pos
  have hp := pair_sl (hs := Nat.one_pos) 67 h1 h2 trivial
  have hfl : flatTo [xs, four (crc xs)] [xs, four (crc xs)].length = sumPut xs := by simp [flatTo, sumPut]
  refine (concat_any _ [xs, four (crc xs)] (fun _ => True) _ hp ?_).mono ?_
  · unfold flenTo; rw [hfl]; simp [sumPut, four]; omega
  rintro e w3 ⟨v3, rfl, hb3, ho3⟩
  rw [hfl] at ho3
  have HO : Hid (OwnB w3 (w2.alloc (.cells #[Value.slice A xs.length c, .slice A2 (four (crc xs)).length c2] 67)).heap.size v3 (sumPut xs)) := ho3
  clear ho3 hp h1 h2 hfl ho2
  go_wp2
  go_ret
  have hb4 := below_step (below_alloc hbel (.cells #[Value.slice A xs.length c, .slice A2 (four (crc xs)).length c2] 67)) hb3
  exact ⟨_, rfl, hb4, HO.out.less (by have := hbel.size; simp; omega)⟩

theorem eq_take_succ {α : Type} {xs ys : List α} {k : Nat} (h : xs.take k = ys.take k) (hx : k < xs.length) (hy : k < ys.length) (e : xs[k] = ys[k]) : xs.take (k + 1) = ys.take (k + 1) := by
  rw [List.take_succ_eq_append_getElem hx, List.take_succ_eq_append_getElem hy, h, e]
/-- The world is the old one, but for draws. -/
def Drawn (w w' : World) : Prop := ∃ n, w' = w.drewN n
theorem Drawn.below {w w' : World} (h : Drawn w w') : Below w.heap.size w w' := by
  obtain ⟨n, rfl⟩ := h
  exact below_drewN (Below.refl _ _) n
def RetD (w0 : World) (v : Value) (e : Ending) (w' : World) : Prop := e = .returned v ∧ Drawn w0 w'

set_option maxHeartbeats 800000 in
theorem equalB_any (v u : Value) (xs ys : List UInt8) (ok ok' : Nat → Prop) (w : World) (hv : Sl elU8 w ok v xs) (hu : Sl elU8 w ok' u ys) :
    Calls Tryd.prog 141 #[v, u] w (RetD w (.bool (decide (xs = ys)))) := by
  obtain ⟨A, c, rfl, hc1, hc2, hc⟩ := hv.one
  obtain ⟨A2, c2, rfl, hd1, hd2, hd⟩ := hu.one
  clear hv hu
  by_cases hl : xs.length = ys.length
  · have hne : ((xs.length : Int) != (ys.length : Int)) = false := by rw [hl]; simp
    have HL := Lib.hid hl
    clear hl
    go_enter Tryd.func141, Tryd.ntmps141
    go_wp2
    go_loopw [13] (fun i wr => ∃ k m : Nat, k ≤ xs.length ∧ i = .int .i64 k ∧ xs.take k = ys.take k ∧ wr = w.drewN m) (fun i _ => xs.length - (intOf i).toNat)
    case atStart => exact ⟨0, 0, by omega, rfl, rfl, rfl⟩
    case round =>
      obtain ⟨k, m, hk, rfl, heq, rfl⟩ := hrel
      have HE := Lib.hid heq
      clear heq
      by_cases hlt : k < xs.length
      · have hlt2 : k < ys.length := by rw [← HL.out]; exact hlt
        obtain ⟨b, o, rfl, hob, hcell⟩ := hc (by omega)
        obtain ⟨b2, o2, rfl, hob2, hcell2⟩ := hd (by omega)
        have h1 := hcell k hlt
        have h2 := hcell2 k hlt2
        clear hcell hcell2
        have HX : Hid (xs[k] = ys[k] → xs.take (k + 1) = ys.take (k + 1)) := eq_take_succ HE.out hlt hlt2
        have HY : Hid (xs[k] ≠ ys[k] → xs ≠ ys) := fun h e => h (by subst e; rfl)
        generalize xs[k] = x at h1 HX HY
        generalize ys[k] = y at h2 HX HY
        by_cases hxy : x = y
        · have hb : ((x.toNat : Int) != (y.toNat : Int)) = false := by rw [hxy]; simp
          have HXY := Lib.hid hxy
          clear hxy
          go_wp2
          go_quiet (fail)
          go_wp2
          go_roundw
          case rel => exact ⟨k + 1, _, by omega, by go_num, HX.out HXY.out, rfl⟩
          case measure => simp [intOf]; omega
        · have hb : ((x.toNat : Int) != (y.toNat : Int)) = true := by
            rw [bne_iff_ne]; intro e; exact hxy (UInt8.toNat_inj.1 (by omega))
          have HXY := Lib.hid hxy
          clear hxy
          go_wp2
          go_quiet (fail)
          go_wp2
          go_ret
          refine ⟨?_, _, World.drewN_drewN ..⟩
          rw [decide_eq_false (HY.out HXY.out)]
          rfl
      · obtain rfl : k = xs.length := by omega
        go_wp2
        go_ret
        have he : xs = ys := by
          have := HE.out
          rw [List.take_of_length_le (Nat.le_refl _), List.take_of_length_le (by rw [HL.out]; exact Nat.le_refl _)] at this
          exact this
        refine ⟨?_, m, rfl⟩
        rw [decide_eq_true he]
        rfl
  · have hne : ((xs.length : Int) != (ys.length : Int)) = true := by rw [bne_iff_ne]; omega
    have HL := Lib.hid hl
    clear hl
    go_enter Tryd.func141, Tryd.ntmps141
    go_wp2
    go_ret
    refine ⟨?_, 0, rfl⟩
    rw [decide_eq_false (fun e => HL.out (by rw [e]))]
    rfl

set_option maxHeartbeats 400000 in
theorem cloneB_any (v : Value) (xs : List UInt8) (ok : Nat → Prop) (w : World) (hv : Sl elU8 w ok v xs) (hl : xs.length ≤ 1000000000000) : Calls Tryd.prog 66 #[v] w (RetB w fun r w' => OwnB w' w.heap.size r xs) := by
  have hv0 := hv
  obtain ⟨A, c, rfl, hc1, hc2, hc⟩ := hv.one
  have hnil := Lib.run_eql_slice_nil (P := Tryd.prog) w 67 5 A xs.length c 0 0 Tryd.underlying67
  rcases A with _ | ad
  · have h0 : xs = [] := by
      rcases Nat.eq_zero_or_pos xs.length with h | h
      · exact List.eq_nil_of_length_eq_zero h
      · obtain ⟨b, o, h1, _⟩ := hc h
        cases h1
    subst h0
    clear hc hv hv0 hl hc1 hc2 hnil
    have hnil : ∀ w : World, (binOp .eql 67 (.slice none 0 c) (.slice none 0 0)).run Tryd.prog w = .ok (.bool true) w := fun w => Lib.run_eql_slice_nil (P := Tryd.prog) w 67 5 none 0 c 0 0 Tryd.underlying67
    show Calls Tryd.prog 66 #[.slice none 0 c] w _
    go_enter Tryd.func66, Tryd.ntmps66
    go_wp2_with fail
    go_ret
    exact ⟨_, rfl, Below.refl _ _, World.ownsRow_nil _ _ _ _⟩
  · have HV := Lib.hid hv0
    have HL : Hid (([] : List UInt8).length + xs.length ≤ 1000000000000) := by simpa [Hid] using hl
    clear hc hv hv0 hl hc1 hc2
    have ho := OwnB.lit w [] (by simp)
    have hb : Below w.heap.size w (w.alloc (.cells #[] 5)) := below_alloc (Below.refl _ _) _
    go_enter Tryd.func66, Tryd.ntmps66
    go_wp2_with (at_builtin; refine app_row (enc := fun b : UInt8 => Value.int .u8 b.toNat) (fun _ => rfl) w.heap.size rfl (.tmp 5) (.tmp 6) 67 5 (.int .u8 0) 1 rfl Tryd.underlying67 infoU8 rfl _ [] xs _ ok rfl rfl ho (HV.out.below hb Nat.one_pos) hb.size (by have := HL.out; unfold maxLen; omega) (by have := HL.out; omega) ?_; intro v2 w2 hown2 hg2 hlie2)
    go_ret
    exact ⟨_, rfl, below_own hb hb.size ho hg2, hown2⟩

end Go.Proofs.YtocmnhjgknaocaaDoor
