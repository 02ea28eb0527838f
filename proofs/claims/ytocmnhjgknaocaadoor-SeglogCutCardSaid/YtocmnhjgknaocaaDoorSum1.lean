import Derived.Test.YtocmnhjgknaocaaDoorChecked
import Derived.Test.YtocmnhjgknaocaaDoorBase
import Derived.Test.YtocmnhjgknaocaaDoorCrc
set_option linter.unusedVariables false
set_option linter.unusedSimpArgs false
set_option maxRecDepth 100000
namespace Go.Proofs.YtocmnhjgknaocaaDoor
open Go.RowKit

namespace Tb
theorem stepsN_snoc (k : Nat) : ∀ n, stepsN (k + 1) n = stepN (stepsN k n) := by
  induction k with
  | zero => intro n; rfl
  | succ k ih => intro n; rw [stepsN, ih]; rfl
end Tb
open Tb

theorem int_eq {k : IntKind} {a b : Int} (h : a = b) : Value.int k a = Value.int k b := by rw [h]
theorem u32_odd (n : Nat) (hn : n < 4294967296) : (bits BinOp.and IntKind.u32 (n : Int) 1 == 1) = decide (n % 2 = 1) := by
  rw [u32_and (n : Int) 1 (by omega) (by omega) (by omega) (by omega)]
  have h1 : (1 : Int).toNat = 1 := rfl
  have h2 : (n : Int).toNat = n := by omega
  rw [h1, h2, Nat.and_one_is_mod, Bool.eq_iff_iff]
  simp; omega

set_option maxHeartbeats 400000 in
theorem entry_any (n : Nat) (hn : n < 4294967296) (w : World) : Calls Tryd.prog 147 #[.int .u32 n] w (Ret (.int .u32 (entryN n)) w) := by
  go_enter Tryd.func147, Tryd.ntmps147
  go_wp2
  go_loop [0, 4] (fun v i => ∃ k : Nat, k ≤ 8 ∧ i = .int .i64 k ∧ v = .int .u32 (stepsN k n)) (fun _ i => 8 - (intOf i).toNat)
  case atStart => exact ⟨0, by omega, rfl, rfl⟩
  case round =>
    obtain ⟨k, hk, rfl, rfl⟩ := hrel
    have hlt := stepsN_lt k hn
    have HS := Lib.hid (stepsN_snoc k n)
    by_cases hk8 : k < 8
    · by_cases ho : stepsN k n % 2 = 1
      · have hT : (bits BinOp.and IntKind.u32 (stepsN k n : Int) 1 == 1) = true := by rw [u32_odd _ hlt]; simpa using ho
        have HO := Lib.hid ho
        clear ho
        go_wp2
        go_round
        case rel =>
          refine ⟨k + 1, by omega, by go_num, int_eq ?_⟩
          rw [HS.out, stepN, if_pos HO.out, u32_xor (stepsN k n / 2) 2197175160 (by omega) (by omega) (by omega) (by omega), show ((stepsN k n : Int) / 2).toNat = stepsN k n / 2 from by omega]
          rfl
        case measure => simp [intOf]; omega
      · have hT : (bits BinOp.and IntKind.u32 (stepsN k n : Int) 1 == 1) = false := by rw [u32_odd _ hlt]; simpa using ho
        have HO := Lib.hid ho
        clear ho
        go_wp2
        go_round
        case rel =>
          refine ⟨k + 1, by omega, by go_num, int_eq ?_⟩
          rw [HS.out, stepN, if_neg HO.out]
          omega
        case measure => simp [intOf]; omega
    · obtain rfl : k = 8 := by omega
      go_wp2
      go_ret
      exact ⟨rfl, rfl⟩

/-- The table's row, when k of it are laid. -/
def tabRow (k : Nat) : Array Value := ((List.range 256).map fun i => if i < k then Value.int .u32 (entryN i) else Value.int .u32 0).toArray
theorem tabRow_size (k : Nat) : (tabRow k).size = 256 := by simp [tabRow]
theorem tabRow_get (k i : Nat) (h : i < 256) : (tabRow k)[i]? = some (if i < k then Value.int .u32 (entryN i) else Value.int .u32 0) := by
  simp [tabRow, h]
theorem tabRow_one (k : Nat) : (tabRow k).all (·.oneCell') = true := by
  rw [Array.all_eq_true_iff_forall_mem]
  intro v hv
  simp only [tabRow, List.mem_toArray, List.mem_map] at hv
  obtain ⟨i, _, rfl⟩ := hv
  split <;> rfl
theorem tabRow_zero : Tryd.zeroCells211 = tabRow 0 := by kernel_rfl
theorem tabRow_set (k : Nat) (h : k < 256) : (tabRow k).setIfInBounds k (.int .u32 (entryN k)) = tabRow (k + 1) := by
  apply Array.ext_getElem?
  intro i
  rw [Array.getElem?_setIfInBounds, tabRow_size]
  by_cases hi : i < 256
  · rw [tabRow_get _ _ hi, tabRow_get _ _ hi]
    by_cases e : k = i
    · subst e; simp [h]
    · rw [if_neg e]
      by_cases h2 : i < k
      · rw [if_pos h2, if_pos (by omega)]
      · rw [if_neg h2, if_neg (by omega)]
  · have h1 : (tabRow k)[i]? = none := by simp [tabRow_size]; omega
    have h2 : (tabRow (k + 1))[i]? = none := by simp [tabRow_size]; omega
    rw [h1, h2, if_neg (by omega)]
def TabAt (w wr : World) (k : Nat) : Prop := wr = (w.alloc (.cells (tabRow 0) 211)).alloc (.cells (tabRow k) 211)

set_option maxRecDepth 100000 in
set_option maxHeartbeats 400000 in
theorem table_any (w : World) : Calls Tryd.prog 142 #[] w (RetB w fun v w' => v = .agg (tabRow 256)) := by
  go_enter Tryd.func142, Tryd.ntmps142
  go_wp2
  rw [tabRow_zero]
  go_loopw [3] (fun i wr => ∃ k : Nat, k ≤ 256 ∧ i = .int .i64 k ∧ TabAt w wr k) (fun i _ => 256 - (intOf i).toNat)
  case atStart => exact ⟨0, by omega, rfl, rfl⟩
  case round =>
    obtain ⟨k, hk, rfl, hw⟩ := hrel
    unfold TabAt at hw
    subst hw
    by_cases hk8 : k < 256
    · have hz := tabRow_size k
      have hg := tabRow_get k k hk8
      rw [if_neg (by omega)] at hg
      have hc : IntKind.u32.wrap (k : Int) = k := by unfold IntKind.wrap; simp [IntKind.bits, IntKind.signed]; omega
      have HZ := Lib.hid hz
      clear hz
      go_wp2_with (go_at_call 147; refine (entry_any k (by omega) _).mono ?_; rintro e w' ⟨rfl, rfl⟩)
      go_roundw
      case rel =>
        have hset := tabRow_set k hk8
        refine ⟨k + 1, by omega, by go_num, ?_⟩
        unfold TabAt
        rw [← hset]
      case measure => simp [intOf]; omega
    · obtain rfl : k = 256 := by omega
      have hz := tabRow_size 256
      have hz0 := tabRow_size 0
      have HZ := Lib.hid hz
      have HZ0 := Lib.hid hz0
      clear hz hz0
      go_wp2_with (first | (refine wpList_load_row rfl 211 (.tmp 1) rfl (w.heap.size + 1) rfl 211 (tabRow 256) (0, 0) _ ?hg Tryd.underlying211 rfl ?hi ?_) | (refine wpList_store_row rfl 211 (.tmp 0) (.tmp 12) rfl w.heap.size (tabRow 256) rfl rfl 211 (tabRow 0) ?hg2 ?hi2 ?hs ?h1 ?_))
      case hg => exact heap_alloc2_new _ _ _
      case hi => rw [HZ.out]; kernel_rfl
      case hg2 => exact heap_alloc2_old _ _ _
      case hi2 => rw [HZ.out]; kernel_rfl
      case hs => rw [HZ.out, HZ0.out]
      case h1 => exact tabRow_one 256
      refine bodyPost_ret (results_cell_row rfl _ _ w.heap.size 211 (tabRow 256) (0, 0) _ rfl (setRow_heap _ _ _ _ _ _ (heap_alloc2_old _ _ _)) Tryd.underlying211 rfl (by rw [HZ.out]; kernel_rfl)) rfl ⟨_, rfl, ?_, rfl⟩
      exact below_setRow (below_alloc (below_alloc (Below.refl _ _) _) _) (Nat.le_refl _) _

theorem u32_not (s : Nat) (hs : s < 4294967296) : bits BinOp.xor IntKind.u32 IntKind.u32.max (s : Int) = ((4294967295 - s : Nat) : Int) := by
  have h1 : IntKind.u32.max = ((4294967295 : Nat) : Int) := rfl
  rw [h1, u32_xor_nat 4294967295 s (by omega) hs, not_eq_xor (by omega), Nat.xor_comm]
theorem u8_of (x : Nat) : IntKind.u8.wrap (x : Int) = ((x % 256 : Nat) : Int) := by rw [IntKind.wrap_u8]; omega
theorem crcRaw_snoc (s : Nat) (xs : List UInt8) (k : Nat) (h : k < xs.length) : crcRaw s (xs.take (k + 1)) = crcStep (crcRaw s (xs.take k)) xs[k] := by
  rw [List.take_succ_eq_append_getElem h, crcRaw_append]; rfl

set_option maxRecDepth 100000 in
set_option maxHeartbeats 400000 in
theorem more_any (s : Nat) (hs : s < 4294967296) (v : Value) (xs : List UInt8) (ok : Nat → Prop) (w : World) (hv : Sl elU8 w ok v xs) : Calls Tryd.prog 127 #[.int .u32 s, v] w (RetB w fun r w' => r = .int .u32 (crcMore s xs)) := by
  obtain ⟨A, c, rfl, hc1, hc2, hc⟩ := hv.one
  go_enter Tryd.func127, Tryd.ntmps127
  go_wp2_with (first | (go_at_call 142; refine (table_any _).mono ?_; rintro e w1 ⟨v1, rfl, hb1, rfl⟩) | (refine wpList_store_row rfl 211 (.tmp 5) (.tmp 8) rfl _ (tabRow 256) rfl rfl 211 Tryd.zeroCells211 ?hg2 ?hi2 ?hs ?h1 ?_))
  case hg2 => exact heap_alloc_new _ _
  case hi2 => rw [tabRow_size]; kernel_rfl
  case hs => rw [tabRow_size]; kernel_rfl
  case h1 => exact tabRow_one 256
  have hW1 : Below w.heap.size w ((w1.alloc (Obj.cells Tryd.zeroCells211 211)).setRow w1.heap.size (tabRow 256)) := below_setRow (below_alloc hb1 _) hb1.size _
  have hT : ((w1.alloc (Obj.cells Tryd.zeroCells211 211)).setRow w1.heap.size (tabRow 256)).heap[w1.heap.size]? = some (.cells (tabRow 256) 211 (0, 0)) := setRow_heap _ _ _ _ _ _ (heap_alloc_new _ _)
  generalize (w1.alloc (Obj.cells Tryd.zeroCells211 211)).setRow w1.heap.size (tabRow 256) = W at hW1 hT ⊢
  have hvW := (hv.below hW1 (by decide)).one
  obtain ⟨A', c', hve, _, _, hcW⟩ := hvW
  injection hve with hA hl hcc
  subst hA hcc
  have HT := Lib.hid hT
  clear hT hv hc hl
  go_loop [0, 13] (fun v i => ∃ k : Nat, k ≤ xs.length ∧ i = .int .i64 k ∧ v = .int .u32 (crcRaw (4294967295 - s) (xs.take k))) (fun _ i => xs.length - (intOf i).toNat)
  case atStart => exact ⟨0, by omega, rfl, by rw [u32_not s hs]; rfl⟩
  case round =>
    obtain ⟨k, hk, rfl, rfl⟩ := hrel
    by_cases hlt : k < xs.length
    · obtain ⟨b, o, rfl, hob, hcell⟩ := hcW (by omega)
      have hck := hcell k hlt
      have HS := Lib.hid (crcRaw_snoc (4294967295 - s) xs k hlt)
      have hSlt : crcRaw (4294967295 - s) (xs.take k) < 2 ^ 32 := crcRaw_lt _ (by omega)
      generalize crcRaw (4294967295 - s) (xs.take k) = S at HS hSlt ⊢
      generalize xs[k] = x at HS hck
      have hx := x.toNat_lt
      have e2 : bits BinOp.xor IntKind.u8 ((S : Int) % 256) (x.toNat : Int) = (((S % 256) ^^^ x.toNat : Nat) : Int) := by
        rw [← u8_xor_nat (S % 256) x.toNat (by omega) (by omega)]; rfl
      have hi : (S % 256) ^^^ x.toNat < 2 ^ 8 := Nat.xor_lt_two_pow (by omega) (by omega)
      have hte : W.cell? ⟨w1.heap.size, (S % 256) ^^^ x.toNat, none⟩ = some (.int .u32 (entryN ((S % 256) ^^^ x.toNat))) := by
        rw [cell_of_row W _ _ _ _ _ HT.out, tabRow_get _ _ (by omega), if_pos (by omega)]
      clear hcell
      have hte2 : entryN ((S % 256) ^^^ x.toNat) < 2 ^ 32 := stepsN_lt 8 (by omega)
      have HC := Lib.hid (u32_xor_nat (S / 256) (entryN ((S % 256) ^^^ x.toNat)) (by omega) hte2)
      go_wp2
      go_round
      case rel =>
        refine ⟨k + 1, by omega, by go_num, int_eq ?_⟩
        rw [HS.out]
        exact HC.out
      case measure => simp [intOf]; omega
    · obtain rfl : k = xs.length := by omega
      go_wp2
      go_ret
      refine ⟨_, rfl, hW1, ?_⟩
      show Value.int IntKind.u32 (bits BinOp.xor IntKind.u32 IntKind.u32.max (crcRaw (4294967295 - s) xs : Int)) = _
      rw [u32_not _ (crcRaw_lt _ (by omega))]
      rfl
end Go.Proofs.YtocmnhjgknaocaaDoor
