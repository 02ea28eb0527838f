import Derived.Test.YtocmnhjgknaocaaDoorSum3
import Derived.Deep.RegionHeld3
set_option linter.unusedVariables false
set_option linter.unusedSimpArgs false
set_option maxRecDepth 100000
namespace Go.Proofs.YtocmnhjgknaocaaDoor
open Go.RowKit Tb

theorem Sl.drop {α : Type} {enc : α → Value} {w : World} {ok : Nat → Prop} {b o n c : Nat} {xs : List α} (h : Sl (elOne enc) w ok (.slice (some ⟨b, o, none⟩) n c) xs) (m : Nat) (hm : m ≤ xs.length) :
    Sl (elOne enc) w ok (.slice (some ⟨b, o + m, none⟩) (n - m) (c - m)) (xs.drop m) := by
  obtain ⟨A', c', hv, h1, h2, h3⟩ := h.one
  injection hv with hA hn hc
  subst hc
  subst hn
  subst hA
  refine Sl.mk1 (by simp) (by omega) (by omega) fun hp => ?_
  obtain ⟨b', o', hA', hb, hcell⟩ := h3 (by omega)
  injection hA' with hA'
  injection hA' with e1 e2
  subst e1
  subst e2
  refine ⟨b, o + m, rfl, hb, fun j hj => ?_⟩
  rw [Nat.add_assoc, hcell (m + j) (by simp at hj; omega), List.getElem_drop]
theorem Sl.dropA {α : Type} {enc : α → Value} {w : World} {ok : Nat → Prop} {A A' : Option Addr} {n c m : Nat} {xs : List α} (h : Sl (elOne enc) w ok (.slice A n c) xs) (hm : m ≤ xs.length)
    (hA : 0 < xs.length - m → A' = A.map (·.add m)) : Sl (elOne enc) w ok (.slice A' (n - m) (c - m)) (xs.drop m) := by
  obtain ⟨A0, c', hv, h1, h2, h3⟩ := h.one
  injection hv with hA0 hn hc
  subst hc
  subst hn
  subst hA0
  refine Sl.mk1 (by simp) (by omega) (by omega) fun hp => ?_
  obtain ⟨b', o', hA', hb, hcell⟩ := h3 (by omega)
  subst hA'
  refine ⟨b', o' + m, ?_, hb, fun j hj => ?_⟩
  · rw [hA hp]
    simp only [Option.map_some, Addr.add]
    split
    · simp_all
    · rfl
  · rw [Nat.add_assoc, hcell (m + j) (by simp at hj; omega), List.getElem_drop]
theorem Sl.take {α : Type} {enc : α → Value} {w : World} {ok : Nat → Prop} {A : Option Addr} {n c : Nat} {xs : List α} (h : Sl (elOne enc) w ok (.slice A n c) xs) (m : Nat) (hm : m ≤ xs.length) :
    Sl (elOne enc) w ok (.slice A m c) (xs.take m) := by
  obtain ⟨A', c', hv, h1, h2, h3⟩ := h.one
  injection hv with hA hn hc
  subst hc
  subst hn
  subst hA
  refine Sl.mk1 (by simp; omega) (by omega) (by omega) fun hp => ?_
  obtain ⟨b', o', hA', hb, hcell⟩ := h3 (by omega)
  refine ⟨b', o', hA', hb, fun j hj => ?_⟩
  rw [hcell j (by simp at hj; omega), List.getElem_take]

def CutPost (base : Nat) (o : Option (List UInt8)) (r : Value) (w' : World) : Prop :=
  match o with
  | none => r = .tuple #[.slice none 0 0, .bool false]
  | some ys => ∃ u, r = .tuple #[u, .bool true] ∧ OwnB w' base u ys

set_option maxHeartbeats 800000 in
theorem cut_short (v : Value) (xs : List UInt8) (ok : Nat → Prop) (w : World) (hv : Sl elU8 w ok v xs) (hl : xs.length < 4) : Calls Tryd.prog 125 #[v] w (RetB w (CutPost w.heap.size (sumCut xs))) := by
  have hq : sumCut xs = none := by unfold sumCut; rw [if_pos hl]
  rw [hq]
  obtain ⟨A, c, rfl, hc1, hc2, hc⟩ := hv.one
  clear hc hv
  have hg : decide ((xs.length : Int) - 4 < 0) = true := by simp; omega
  go_enter Tryd.func125, Tryd.ntmps125
  go_wp2
  go_quiet (fail)
  go_wp2
  go_ret2
  exact ⟨_, rfl, below_drewN (Below.refl _ _) _, rfl⟩

set_option maxHeartbeats 800000 in
theorem cut_long (v : Value) (xs : List UInt8) (ok : Nat → Prop) (w : World) (hv : Sl elU8 w ok v xs) (hl : 4 ≤ xs.length) (hl2 : xs.length ≤ 1000000000000) : Calls Tryd.prog 125 #[v] w (RetB w (CutPost w.heap.size (sumCut xs))) := by
  have hv0 := hv
  obtain ⟨A, c, rfl, hc1, hc2, hc⟩ := hv.one
  obtain ⟨b, o, rfl, hob, hcell⟩ := hc (by omega)
  obtain ⟨n, hn⟩ : ∃ n, xs.length = n + 4 := ⟨xs.length - 4, by omega⟩
  have hd := Sl.drop hv0 n (by omega)
  have ht := Sl.take hv0 n (by omega)
  rw [hn, Nat.add_sub_cancel_left] at hd
  have hc3 : n + 4 ≤ c := by omega
  have HN := Lib.hid hn
  rw [hn]
  rw [hn] at hl2
  have HD := Lib.hid hd
  have HT := Lib.hid ht
  clear hcell hc hv hv0 hd ht hob hl hc1 hn
  have hi0 : (0 : Int) ≤ (n : Int) := by omega
  have hi1 : (n : Int) ≤ (n : Int) + 4 := by omega
  have hi2 : (n : Int) + 4 ≤ (c : Int) := by omega
  have hi3 : (n : Int) ≤ (c : Int) := by omega
  have hg : ((n : Int) < 0) = False := by simp
  have hq : sumCut xs = if xs.drop n = four (crc (xs.take n)) then some (xs.take n) else none := by
    unfold sumCut
    rw [HN.out, Nat.add_sub_cancel, if_neg (by omega)]
  rw [hq]
  have HB : Hid (n ≤ 1000000000000) := by unfold Hid; omega
  clear hq hl2
  by_cases heq : xs.drop n = four (crc (xs.take n))
  · rw [if_pos heq]
    have hdec : decide (xs.drop n = four (crc (xs.take n))) = true := decide_eq_true heq
    have HQ := Lib.hid heq
    clear heq
    go_enter Tryd.func125, Tryd.ntmps125
    go_wp2_with fail
    go_region_held3 (fun _ => True) (trivial) ((first | (go_at_call 99; refine (of_any _ (xs.take n) ok _ (by exact HT.out.heap rfl Nat.one_pos)).mono ?_; rintro e w1 ⟨v1, rfl, hb1', rfl⟩; have hb1 := below_of_drew hb1'; clear hb1') | (go_at_call 98; refine (four_any _ (crcMore_lt 0 _) _).mono ?_; rintro e w2 ⟨v2, rfl, hb2, ho2⟩) | (go_at_call 141; refine (equalB_any _ _ (xs.drop n) (four (crc (xs.take n))) ok _ _ (((HD.out.heap rfl Nat.one_pos).below hb1 Nat.one_pos).below hb2 Nat.one_pos) ho2.sl).mono ?_; rintro e w3 ⟨rfl, hdr⟩)))
    have hb3 : Below w.heap.size w w3 := below_step (below_step hb1 hb2) hdr.below
    have HT3 := Lib.hid (HT.out.below hb3 Nat.one_pos)
    clear hdr
    go_wp2_with (go_at_call 66; refine (cloneB_any _ (xs.take n) ok _ (by exact HT3.out) (by have := HB.out; rw [List.length_take]; omega)).mono ?_; rintro e w4 ⟨v4, rfl, hb4, ho4⟩)
    go_ret2
    exact ⟨_, rfl, below_step hb3 hb4, v4, rfl, ho4.less hb3.size⟩
  · rw [if_neg heq]
    have hdec : decide (xs.drop n = four (crc (xs.take n))) = false := decide_eq_false heq
    have HQ := Lib.hid heq
    clear heq
    go_enter Tryd.func125, Tryd.ntmps125
    go_wp2_with fail
    go_region_held3 (fun _ => True) (trivial) ((first | (go_at_call 99; refine (of_any _ (xs.take n) ok _ (by exact HT.out.heap rfl Nat.one_pos)).mono ?_; rintro e w1 ⟨v1, rfl, hb1', rfl⟩; have hb1 := below_of_drew hb1'; clear hb1') | (go_at_call 98; refine (four_any _ (crcMore_lt 0 _) _).mono ?_; rintro e w2 ⟨v2, rfl, hb2, ho2⟩) | (go_at_call 141; refine (equalB_any _ _ (xs.drop n) (four (crc (xs.take n))) ok _ _ (((HD.out.heap rfl Nat.one_pos).below hb1 Nat.one_pos).below hb2 Nat.one_pos) ho2.sl).mono ?_; rintro e w3 ⟨rfl, hdr⟩)))
    have hb3 : Below w.heap.size w w3 := below_step (below_step hb1 hb2) hdr.below
    clear hdr
    go_wp2_with fail
    go_ret2
    exact ⟨_, rfl, hb3, rfl⟩

theorem cut_any (v : Value) (xs : List UInt8) (ok : Nat → Prop) (w : World) (hv : Sl elU8 w ok v xs) (hl2 : xs.length ≤ 1000000000000) : Calls Tryd.prog 125 #[v] w (RetB w (CutPost w.heap.size (sumCut xs))) := by
  by_cases hl : xs.length < 4
  · exact cut_short v xs ok w hv hl
  · exact cut_long v xs ok w hv (by omega) hl2

end Go.Proofs.YtocmnhjgknaocaaDoor
