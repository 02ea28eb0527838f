import Derived.Test.YtocmnhjgknaocaaDoorRec6
import Derived.Test.YtocmnhjgknaocaaDoorShelf
import Derived.Lib.ItoaMem
set_option linter.unusedVariables false
set_option linter.unusedSimpArgs false
set_option maxRecDepth 100000
namespace Go.Proofs.YtocmnhjgknaocaaDoor
open Go.RowKit Tb

abbrev encB : UInt8 → Value := fun b => Value.int .u8 b.toNat
theorem tab_below {w w' : World} {name : String} {k : IntKind} {zs : List Int} (h : Lib.TabIs Tryd.prog w name k zs) (hb : Below w.heap.size w w') : Lib.TabIs Tryd.prog w' name k zs := by
  unfold Lib.TabIs World.var? at *
  cases hg : Tryd.prog.globalNamed name with
  | none => simp [hg] at h
  | some g =>
    simp only [hg, Option.bind_some] at h ⊢
    have hlt : g < w.heap.size := by
      rcases Nat.lt_or_ge g w.heap.size with h' | h'
      · exact h'
      · rw [Array.getElem?_eq_none h'] at h; simp at h
    rw [hb.block g hlt]
    exact h
theorem mapBlock_below {B : Nat} {w W : World} (h : Below B w W) {g : Nat} (hg : B ≤ g) (f : Array Value → Array Value) : Below B w (Sort.mapBlock W g f) :=
  h.trans ⟨rfl, rfl, rfl, by simp [Sort.mapBlock], fun k hk => by
    show (W.heap.modify g (Sort.onCells f))[k]? = W.heap[k]?
    rw [Array.getElem?_modify, if_neg (by omega)]⟩
theorem holds_zero0 (w : World) (T : TypeId) (nd : Nat) (hs : nd ≤ 24) : Sort.Holds encB (w.alloc (.cells Lib.zeros24 T)) w.heap.size 0 (Array.replicate nd (0 : UInt8)) := fun j hj => by
  have hj' : j < nd := by simpa using hj
  refine ⟨?_, World.frozen?_alloc_new _ _ _ _⟩
  rw [World.cell?_alloc_new, Lib.zeros24_at _ (by omega), getElem!_pos _ j hj]
  simp

set_option maxHeartbeats 3200000 in
theorem fmtI_any (u : Nat) (hu : u < 18446744073709551616) (w : World) (htab : Lib.TabIs Tryd.prog w "internal/strconv.uint64pow10" .u64 Lib.pow10Tab) :
    Calls Tryd.prog 89 #[.int .u64 u, .int .i64 10] w (RetB w fun v _ => v = .string ⟨(Lib.decDigits u).toArray⟩) := by
  by_cases hs : u < 100
  · have hd : decide ((u : Int) < 100) = true := by simp; omega
    go_enter Tryd.func89, Tryd.ntmps89
    go_wp2_with (go_at_call 103; refine (Tryd.internal_strconv_small u hs _).mono ?_; rintro e w1 ⟨rfl, rfl⟩)
    go_ret
    exact ⟨_, rfl, Below.refl _ _, rfl⟩
  · have hd : decide ((u : Int) < 100) = false := by simp; omega
    have hu1 : 1 ≤ u := by omega
    have hnd20 : Lib.nDigits u ≤ 20 := by have := Lib.numDigits_eq u hu1 hu; split at this <;> omega
    have hal : Tryd.prog.arrayLen 171 = 24 := by kernel_rfl
    have hel : Tryd.prog.elem 171 = 5 := by kernel_rfl
    have hsl : ∀ W, (Instr.sliceAt 171 (.pointer (some ⟨w.heap.size, 0, none⟩)) none (some (.int .i64 (Lib.nDigits u : Int))) none).run Tryd.prog W = .ok (.slice (some ⟨w.heap.size, 0, none⟩) (Lib.nDigits u) 24) W := fun W => by
      rw [run_sliceAt_array_h W 171 ⟨w.heap.size, 0, none⟩ (by rw [hal, hel]; exact Tryd.underlying171) .i64 (Lib.nDigits u : Int) (by omega) (by rw [hal]; omega), hel, hal]
      obtain ⟨i0, hi, hz0, hz1, hz2⟩ := info_parts infoU8
      simp [sizeOf, typeInfo, hi, slicedAt, Addr.add]
    have hH0 := holds_zero0 w 171 (Lib.nDigits u) (by omega)
    have hfmt := Tryd.internal_strconv_formatBase10 w.heap.size 0 24 u (Array.replicate (Lib.nDigits u) 0) (w.alloc (.cells Lib.zeros24 171)) hH0 (by rw [Array.size_replicate]; exact Lib.lt_pow_nDigits u) hu (by rw [Array.size_replicate]; omega)
    rw [Array.size_replicate] at hfmt
    have HH0 := Lib.hid hH0
    have HFMT := Lib.hid hfmt
    clear hH0 hal hel hfmt
    go_enter Tryd.func89, Tryd.ntmps89
    go_wp2_with (go_at_call 104; refine (Tryd.internal_strconv_numDigits u hu1 hu _ (Lib.tabIs_alloc htab _)).mono ?_; rintro e w1 ⟨rfl, rfl⟩)
    refine HFMT.out.mono ?_
    rintro e w1 ⟨rfl, k, v', dk, rfl, hF⟩
    have hbel : Below w.heap.size w ((Sort.putRow encB (w.alloc (.cells Lib.zeros24 171)) w.heap.size 0 dk).drewN k) := below_drewN (mapBlock_below (below_alloc (Below.refl _ _) _) (Nat.le_refl _) _) k
    have hsl2 : Sl elU8 ((Sort.putRow encB (w.alloc (.cells Lib.zeros24 171)) w.heap.size 0 dk).drewN k) (fun _ => True) (.slice (some ⟨w.heap.size, 0, none⟩) (Lib.nDigits u) 24) (Lib.decDigits u) := by
      refine Sl.mk1 (Lib.decDigits_length u) (by omega) (by omega) fun hp => ⟨w.heap.size, 0, rfl, trivial, fun j hj => ?_⟩
      rw [Lib.row_is_numeral hF j hj, World.cell?_drewN]
      exact Sort.cell?_putRow encB _ w.heap.size 0 _ dk HH0.out (by rw [hF.size, Array.size_replicate]) j (by rw [hF.size]; rw [Lib.decDigits_length] at hj; exact hj)
    have hcv := conv_str hsl2
    have HBEL := Lib.hid hbel
    clear hsl2 hbel hF
    go_wp2_with fail
    go_ret
    exact ⟨_, rfl, HBEL.out, rfl⟩

theorem fmt_any (u : Nat) (hu : u < 18446744073709551616) (w : World) (htab : Lib.TabIs Tryd.prog w "internal/strconv.uint64pow10" .u64 Lib.pow10Tab) :
    Calls Tryd.prog 71 #[.int .u64 u, .int .i64 10] w (RetB w fun v _ => v = .string ⟨(Lib.decDigits u).toArray⟩) := by
  go_enter Tryd.func71, Tryd.ntmps71
  go_wp2_with (go_at_call 89; refine (fmtI_any u hu _ htab).mono ?_; rintro e w1 ⟨v1, rfl, hb1, rfl⟩)
  go_ret
  exact ⟨_, rfl, hb1, rfl⟩

/-- A name's letters. -/
def kindOk (k : UInt8) : Bool := k == 109 || k == 101 || k == 115
def nameOf (k : UInt8) (n : Nat) : Except Int (List UInt8) := if kindOk k && decide (n < 10000000000) then .ok (k :: 46 :: Lib.decDigits n) else .error 1
def NamePost (o : Except Int (List UInt8)) (r : Value) : Prop :=
  match o with
  | .error e => r = .tuple #[.string ⟨#[]⟩, .int .i64 e]
  | .ok l => r = .tuple #[.string ⟨l.toArray⟩, .int .i64 0]
theorem index_kinds (k : UInt8) : Lib.indexByte [109, 101, 115] k = if k == 109 then 0 else if k == 101 then 1 else if k == 115 then 2 else -1 := by
  simp only [Lib.indexByte]
  by_cases h1 : k = 109
  · subst h1; rfl
  · by_cases h2 : k = 101
    · subst h2; rfl
    · by_cases h3 : k = 115
      · subst h3; rfl
      · have e1 : (109 == k) = false := by simpa using fun e => h1 e.symm
        have e2 : (101 == k) = false := by simpa using fun e => h2 e.symm
        have e3 : (115 == k) = false := by simpa using fun e => h3 e.symm
        simp [e1, e2, e3, h1, h2, h3]

theorem digits_le (n : Nat) (hn : n < 18446744073709551616) : (Lib.decDigits n).length ≤ 20 := by
  rw [Lib.decDigits_length]
  by_cases h : n = 0
  · subst h; rw [Lib.nDigits_small (by decide)]; decide
  · have := Lib.numDigits_eq n (by omega) hn; split at this <;> omega
theorem str_cat (a b : List UInt8) : (⟨a.toArray⟩ : ByteArray) ++ ⟨b.toArray⟩ = ⟨(a ++ b).toArray⟩ := by
  apply ByteArray.ext
  simp [ByteArray.data_append]
theorem str_cat3 (k : UInt8) (l : List UInt8) : (⟨#[k]⟩ : ByteArray) ++ ⟨#[46]⟩ ++ ⟨l.toArray⟩ = ⟨(k :: 46 :: l).toArray⟩ := by
  have h := str_cat ([k] ++ [46]) l
  rw [← str_cat] at h
  exact h

set_option maxHeartbeats 1600000 in
theorem nameOf_any (k : UInt8) (n : Nat) (hn : n < 18446744073709551616) (w : World) (htab : Lib.TabIs Tryd.prog w "internal/strconv.uint64pow10" .u64 Lib.pow10Tab) :
    Calls Tryd.prog 36 #[.int .u8 k.toNat, .int .u64 n] w (RetB w fun v _ => NamePost (nameOf k n) v) := by
  have hix := index_kinds k
  have hk8 : (k.toNat : Int).toNat.toUInt8 = k := by simp
  rcases hk : kindOk k with _ | _
  · have hq : nameOf k n = .error 1 := by unfold nameOf; rw [hk]; rfl
    rw [hq]
    have hi : Lib.indexByte [109, 101, 115] k = -1 := by
      simp [kindOk] at hk
      rw [hix]
      simp [hk]
    go_enter Tryd.func36, Tryd.ntmps36
    go_wp2_with (go_at_call 70; have h := Tryd.strings_IndexByte ⟨#[109, 101, 115]⟩ (k.toNat : Int); rw [hk8] at h; refine (h _).mono ?_; clear h; rintro e w1 ⟨rfl, rfl⟩; rw [show (⟨#[109, 101, 115]⟩ : ByteArray).data.toList = [109, 101, 115] from rfl, hi])
    go_ret2
    exact ⟨_, rfl, Below.refl _ _, rfl⟩
  · have hi0 : ∃ j : Nat, Lib.indexByte [109, 101, 115] k = (j : Int) := by
      simp [kindOk] at hk
      rw [hix]
      rcases hk with (h | h) | h
      · exact ⟨0, by simp [h]⟩
      · exact ⟨1, by simp [h]⟩
      · exact ⟨2, by simp [h]⟩
    obtain ⟨j, hj⟩ := hi0
    have HI : Hid (∀ W, Calls Tryd.prog 70 #[.string ⟨#[109, 101, 115]⟩, .int .u8 k.toNat] W (Ret (.int .i64 j) W)) := fun W => by
      have h := Tryd.strings_IndexByte ⟨#[109, 101, 115]⟩ (k.toNat : Int) W
      rw [hk8, show (⟨#[109, 101, 115]⟩ : ByteArray).data.toList = [109, 101, 115] from rfl, hj] at h
      exact h.mono fun e w' ⟨a, b⟩ => ⟨a, b.symm⟩
    clear hix hk8 hj
    have hjs : decide ((j : Int) < 0) = false := by simp
    by_cases hb : n < 10000000000
    · have hd : decide ((10000000000 : Int) ≤ (n : Int)) = false := by simp; omega
      have hq : nameOf k n = .ok (k :: 46 :: Lib.decDigits n) := by unfold nameOf; rw [hk, decide_eq_true hb]; rfl
      rw [hq]
      have HKK := Lib.hid hk
      clear hq hb hk
      have hen : Utf8.encode (wrap32 (k.toNat : Int)) = ⟨#[k]⟩ := by
        have h := HKK.out
        simp [kindOk] at h
        rcases h with (h | h) | h <;> subst h <;> decide +kernel
      have hdl := digits_le n hn
      go_enter Tryd.func36, Tryd.ntmps36
      go_wp2_with (first | (go_at_call 70; refine (HI.out _).mono ?_; rintro e w1 ⟨rfl, rfl⟩) | (go_at_call 71; refine (fmt_any n hn _ htab).mono ?_; rintro e w1 ⟨v1, rfl, hb1, rfl⟩))
      go_ret2
      refine ⟨_, rfl, hb1, ?_⟩
      show Value.tuple #[Value.string _, _] = _
      rw [str_cat3]
      rfl
    · have hd : decide ((10000000000 : Int) ≤ (n : Int)) = true := by simp; omega
      have hq : nameOf k n = .error 1 := by unfold nameOf; rw [hk, decide_eq_false hb]; rfl
      rw [hq]
      go_enter Tryd.func36, Tryd.ntmps36
      go_wp2_with (go_at_call 70; refine (HI.out _).mono ?_; rintro e w1 ⟨rfl, rfl⟩)
      go_ret2
      exact ⟨_, rfl, Below.refl _ _, rfl⟩

end Go.Proofs.YtocmnhjgknaocaaDoor
