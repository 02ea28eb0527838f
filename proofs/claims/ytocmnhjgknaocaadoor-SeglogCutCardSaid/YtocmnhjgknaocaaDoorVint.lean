import Derived.Test.YtocmnhjgknaocaaDoorSum4
import Derived.Test.YtocmnhjgknaocaaDoorCodecThm
set_option linter.unusedVariables false
set_option linter.unusedSimpArgs false
set_option maxRecDepth 100000
namespace Go.Proofs.YtocmnhjgknaocaaDoor
open Go.RowKit Tb

theorem or128 : ∀ x < 256, x ||| 128 = x % 128 + 128 := by decide +kernel
theorem u8_or128n (m : Nat) : bits BinOp.or IntKind.u8 ((m : Int) % 256) 128 = ((UInt8.ofNat (m % 128 + 128)).toNat : Int) := by
  have h := u8_or_nat (m % 256) 128 (by omega) (by omega)
  have e : ((m % 256 : Nat) : Int) = (m : Int) % 256 := by omega
  rw [e] at h
  have e2 : ((128 : Nat) : Int) = (128 : Int) := rfl
  rw [e2] at h
  rw [h, or128 _ (by omega), UInt8.toNat_ofNat']
  omega
theorem vput_small {m : Nat} (h : m < 128) : vput m = [UInt8.ofNat m] := by unfold vput; rw [if_pos h]
theorem vput_large {m : Nat} (h : 128 ≤ m) : vput m = UInt8.ofNat (m % 128 + 128) :: vput (m / 128) := by
  conv => lhs; unfold vput
  rw [if_neg (by omega)]

/-- The first cells of a block are these bytes. -/
def Heads (cs : List Value) (pre : List UInt8) : Prop := ∀ j (h : j < pre.length), cs[j]? = some (.int .u8 pre[j].toNat)
theorem Heads.snoc {cs : List Value} {pre : List UInt8} (h : Heads cs pre) (hl : pre.length < cs.length) (x : UInt8) : Heads (cs.set pre.length (.int .u8 x.toNat)) (pre ++ [x]) := by
  intro j hj
  by_cases e : j = pre.length
  · subst e; simp [hl]
  · have hj2 : j < pre.length := by simp at hj; omega
    rw [List.getElem?_set, if_neg (by omega), h j hj2, List.getElem_append_left hj2]

def LayPost (w : World) (B : Nat) (n : Nat) (r : Value) (w' : World) : Prop :=
  r = .int .i64 (vput n).length ∧ Kept (fun k => k = B) w w' ∧ w'.heap.size = w.heap.size ∧ ∃ cs, cs.length = 10 ∧ Blk w' B cs 166 ∧ Heads cs (vput n)
def RetQ (Q : Value → World → Prop) (e : Ending) (w' : World) : Prop := ∃ v, e = .returned v ∧ Q v w'

theorem kept_set {w wr : World} {B : Nat} (h : Kept (fun k => k = B) w wr) (i : Nat) (v : Value) : Kept (fun k => k = B) w (wr.setCell ⟨B, i, none⟩ v) :=
  ⟨h.os, h.tape, h.output, by rw [show (wr.setCell ⟨B, i, none⟩ v).heap.size = wr.heap.size from by simp [World.setCell]]; exact h.size,
   fun k hk hne => (Below.heap_setCell wr ⟨B, i, none⟩ v k hne).trans (h.block k hk hne)⟩

set_option maxHeartbeats 800000 in
theorem lay_any (B n : Nat) (cs : List Value) (w : World) (hB : Blk w B cs 166) (hcs : cs.length = 10) (hn : n < 18446744073709551616) :
    Calls Tryd.prog 100 #[.pointer (some ⟨B, 0, none⟩), .int .u64 n] w (RetQ (LayPost w B n)) := by
  have hlen := vput_length_le 9 n (Nat.lt_of_lt_of_le hn (by decide))
  have HN := Lib.hid hn
  clear hn
  go_enter Tryd.func100, Tryd.ntmps100
  go_wp2_with fail
  go_loopw [1, 5] (fun v i wr => ∃ (pre : List UInt8) (m : Nat) (cs : List Value), vput n = pre ++ vput m ∧ v = .int .u64 m ∧ i = .int .i64 pre.length ∧ cs.length = 10 ∧ Blk wr B cs 166 ∧ Heads cs pre ∧ Kept (fun k => k = B) w wr ∧ wr.heap.size = w.heap.size) (fun _ i _ => 10 - (intOf i).toNat)
  case atStart => exact ⟨[], n, cs, rfl, rfl, rfl, hcs, hB, fun j hj => absurd hj (by simp), Kept.refl _ _, rfl⟩
  case round =>
    clear hB hcs
    obtain ⟨pre, m, cs, hv, rfl, rfl, hcs, hB, hh, hk, hsz⟩ := hrel
    have hlen2 : pre.length + (vput m).length ≤ 10 := by rw [hv, List.length_append] at hlen; exact hlen
    have hpos := vput_length_pos m
    have hlt : pre.length < 10 := by omega
    obtain ⟨x0, hx0⟩ : ∃ x0, cs[pre.length]? = some x0 := ⟨cs[pre.length], by simp [hcs, hlt]⟩
    have hcell := hB.at pre.length x0 hx0
    clear hx0
    have hfr := hB.frozen pre.length
    have HV := Lib.hid hv
    have HC := Lib.hid hcs
    have HZ := Lib.hid hsz
    have HK := Lib.hid hk
    have HB := Lib.hid hB
    have HH := Lib.hid hh
    clear hv hcs hsz hk hB hh hlen
    by_cases hm : 128 ≤ m
    · have ho := u8_or128n m
      have HL := Lib.hid (vput_large hm)
      have HM := Lib.hid (show (m : Int) / 128 = ((m / 128 : Nat) : Int) from by omega)
      go_wp2_with fail
      go_roundw
      case rel =>
        refine ⟨pre ++ [UInt8.ofNat (m % 128 + 128)], m / 128, cs.set pre.length (.int .u8 (UInt8.ofNat (m % 128 + 128)).toNat), ?_, ?_, ?_, ?_, HB.out.set _ _, HH.out.snoc (by rw [HC.out]; exact hlt) _, kept_set HK.out _ _, ?_⟩
        · rw [HV.out, HL.out]; simp
        · go_num
        · rw [List.length_append]; go_num
        · rw [List.length_set]; exact HC.out
        · rw [← HZ.out]; simp [World.setCell]
      case measure => simp [intOf]; omega
    · have HL := Lib.hid (vput_small (show m < 128 by omega))
      have HE : Hid ((m : Int) = ((UInt8.ofNat m).toNat : Int)) := by unfold Hid; rw [UInt8.toNat_ofNat']; omega
      go_wp2_with fail
      go_ret
      refine ⟨_, rfl, ?_, kept_set HK.out _ _, ?_, cs.set pre.length (.int .u8 m), ?_, HB.out.set _ _, ?_⟩
      · rw [HV.out, HL.out, List.length_append]; rfl
      · rw [← HZ.out]; simp [World.setCell]
      · rw [List.length_set]; exact HC.out
      · rw [HV.out, HL.out, HE.out]
        exact HH.out.snoc (by rw [HC.out]; exact hlt) _


set_option maxHeartbeats 800000 in
theorem vput_any (n : Nat) (hn : n < 18446744073709551616) (w : World) : Calls Tryd.prog 86 #[.int .u64 n] w (RetB w fun v w' => Sl elU8 w' (fun b => w.heap.size ≤ b) v (vput n)) := by
  have hlen := vput_length_le 9 n (Nat.lt_of_lt_of_le hn (by decide))
  have hlen : (vput n).length ≤ 10 := hlen
  have HN := Lib.hid hn
  have HL := Lib.hid hlen
  clear hn
  have hz : Blk (w.alloc (.cells #[Value.int .u8 0, Value.int .u8 0, Value.int .u8 0, Value.int .u8 0, Value.int .u8 0, Value.int .u8 0, Value.int .u8 0, Value.int .u8 0, Value.int .u8 0, Value.int .u8 0] 166)) w.heap.size [Value.int .u8 0, Value.int .u8 0, Value.int .u8 0, Value.int .u8 0, Value.int .u8 0, Value.int .u8 0, Value.int .u8 0, Value.int .u8 0, Value.int .u8 0, Value.int .u8 0] 166 := Blk.new w [Value.int .u8 0, Value.int .u8 0, Value.int .u8 0, Value.int .u8 0, Value.int .u8 0, Value.int .u8 0, Value.int .u8 0, Value.int .u8 0, Value.int .u8 0, Value.int .u8 0] 166
  have HZ := Lib.hid hz
  clear hz
  have hsl : ∀ (a : Addr) (W : World), (Instr.sliceAt 166 (.pointer (some a)) none (some (.int .i64 (vput n).length)) (some (.int .i64 (vput n).length))).run Tryd.prog W = .ok (.slice (some a) (vput n).length (vput n).length) W := by
    intro a W
    have hal : Tryd.prog.arrayLen 166 = 10 := by kernel_rfl
    have hel : Tryd.prog.elem 166 = 5 := by kernel_rfl
    rw [run_sliceAt_array_hm W 166 a (by rw [hal, hel]; exact Tryd.underlying166) .i64 .i64 _ _ (by omega) (by omega) (by rw [hal]; omega), hel]
    obtain ⟨i0, hi, hz0, hz1, hz2⟩ := info_parts infoU8
    simp [sizeOf, typeInfo, hi, slicedAt, Addr.add]
  go_enter Tryd.func86, Tryd.ntmps86
  go_wp2_with (go_at_call 100; refine (lay_any w.heap.size n _ _ (by exact HZ.out) (by simp) HN.out).mono ?_; rintro e w1 ⟨v1, rfl, rfl, hk1, hs1, cs, hcs, hB, hh⟩)
  go_ret
  have hb : Below w.heap.size w w1 := (below_alloc (Below.refl _ _) _).trans (hk1.below (by simp) (fun k hk => by omega))
  refine ⟨_, rfl, hb, Sl.mk1 rfl (Nat.le_refl _) (by have := HL.out; omega) fun hp => ⟨w.heap.size, 0, rfl, Nat.le_refl _, fun j hj => ?_⟩⟩
  rw [Nat.zero_add, hB.cell, hh j hj]

end Go.Proofs.YtocmnhjgknaocaaDoor
