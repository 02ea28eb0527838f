import Derived.Test.YtocmnhjgknaocaaDoorLog2
set_option linter.unusedVariables false
set_option linter.unusedSimpArgs false
set_option maxRecDepth 100000
namespace Go.Proofs.YtocmnhjgknaocaaDoor
open Go.RowKit Tb
open Go.ChangeMaps (setBlock)

theorem read_len {F : Nat → Prop} {w : World} {D : Nat} {s : PDisk} (h : DiskIn F w D s) {n b : List UInt8} (hr : s.read n = .ok b) : b.length ≤ 1048576 := by
  obtain ⟨mS, mT, vT, bv, h⟩ := h
  unfold PDisk.read at hr
  split at hr
  · cases hr
  · split at hr
    · cases hr
    · rename_i i hg
      injection hr with hr
      subst hr
      exact (h.bytes i (h.inNow _ (dirGet_mem hg))).1
theorem read_err {s : PDisk} {n : List UInt8} {e : Int} (h : s.read n = .error e) : e = 7 ∨ e = 5 := by
  unfold PDisk.read at h
  split at h
  · injection h with h; exact .inl h.symm
  · split at h
    · injection h with h; exact .inr h.symm
    · cases h
theorem dreadI {F : Nat → Prop} {w : World} {D : Nat} {s : PDisk} (h : DiskIn F w D s) (n : List UInt8) : Calls Tryd.prog 29 #[.pointer (some ⟨D, 0, none⟩), .string ⟨n.toArray⟩] w (RetB w (ResB w.heap.size (s.read n))) := by
  obtain ⟨mS, mT, vT, bv, h⟩ := h
  exact dread_any h n
theorem dcutI {F : Nat → Prop} {w : World} {D : Nat} {s : PDisk} (h : DiskIn F w D s) (n : List UInt8) (k : Int) :
    Calls Tryd.prog 31 #[.pointer (some ⟨D, 0, none⟩), .string ⟨n.toArray⟩, .int .i64 k] w (OpPost F w D (s.cut n k)) := by
  obtain ⟨mS, mT, vT, bv, h⟩ := h
  exact dcut_any h n k
theorem OpPost.disk {F : Nat → Prop} {w : World} {D : Nat} {q : Int × PDisk} {e : Ending} {w' : World} (h : OpPost F w D q e w') : e = .returned (.int .i64 q.1) ∧ DiskIn (fun b => F b ∨ w.heap.size ≤ b) w' D q.2 ∧ Kept F w w' := by
  obtain ⟨a, b, c, d, h1, h2, h3⟩ := h
  exact ⟨h1, ⟨a, b, c, d, h2⟩, h3⟩

/-! ### Open -/
def logOpen (s : PDisk) (seg at_ : Nat) (size : Int) : Except Int PLog × PDisk :=
  if madeOk seg size then
    match s.read (segName seg) with
    | .error e => (.error e, s)
    | .ok b =>
      if b.length < at_ then (.error 3, s)
      else if at_ < b.length then
        if (s.cut (segName seg) at_).1 = 0 then (.ok ⟨seg, at_, size, seg + 1, false⟩, (s.cut (segName seg) at_).2) else (.error (s.cut (segName seg) at_).1, (s.cut (segName seg) at_).2)
      else (.ok ⟨seg, at_, size, seg + 1, false⟩, s)
  else (.error 1, s)
def OpenPost (F : Nat → Prop) (w : World) (D : Nat) (q : Except Int PLog × PDisk) (e : Ending) (w' : World) : Prop := LogOr F w D q e w' ∧ Kept F w w'

set_option maxHeartbeats 1600000 in
theorem open_any {F : Nat → Prop} {w : World} {D : Nat} {s : PDisk} (hD : DiskIn F w D s) (hFb : ∀ b, F b → b < w.heap.size) (ht : Tab w) (seg at_ : Nat) (h64 : seg < 18446744073709551616) (ha64 : at_ < 18446744073709551616) (size : Int) :
    Calls Tryd.prog 13 #[ptrV D, .int .u64 seg, .int .u64 at_, .int .i64 size] w (OpenPost F w D (logOpen s seg at_ size)) := by
  have HM := Lib.hid (made_any D seg size h64 w ht)
  have HFB := Lib.hid hFb
  have HD := Lib.hid hD
  clear hD hFb
  rcases hq : madeOk seg size with _ | _
  · unfold MadePost at HM
    rw [hq] at HM
    have HQ : Hid (logOpen s seg at_ size = (.error 1, s)) := by unfold Hid logOpen; rw [hq]; rfl
    clear hq
    unfold ptrV at *
    rw [HQ.out]
    go_enter Tryd.func13, Tryd.ntmps13
    go_wp2_with (go_at_call 50; refine HM.out.mono ?_; rintro e w1 ⟨v1, rfl, hb1, rfl⟩)
    go_ret2
    exact ⟨⟨rfl, (HD.out.below hb1).keepF (fun _ _ _ => rfl) fun b hb => .inl hb⟩, Kept.of_below hb1⟩
  · unfold MadePost at HM
    rw [hq] at HM
    have hseg : seg < 10000000000 := by unfold madeOk at hq; simp at hq; omega
    have hsz : 64 ≤ size ∧ size ≤ 65536 := by unfold madeOk at hq; simp at hq; omega
    have HQ := Lib.hid hq
    clear hq
    unfold ptrV at *
    rcases hr : s.read (segName seg) with er | b
    · have hern : ((er : Int) != 0) = true := by rcases read_err hr with rfl | rfl <;> rfl
      have HO : Hid (logOpen s seg at_ size = (.error er, s)) := by unfold Hid logOpen; rw [HQ.out, if_pos rfl, hr]
      have HR : Hid (∀ W, DiskIn F W D s → Calls Tryd.prog 29 #[.pointer (some ⟨D, 0, none⟩), .string ⟨(segName seg).toArray⟩] W (RetB W (ResB W.heap.size (.error er)))) := fun W h => by
        have := dreadI h (segName seg)
        rw [hr] at this
        exact this
      clear hr
      go_enter Tryd.func13, Tryd.ntmps13
      go_wp2_with (first
        | (go_at_call 50; refine HM.out.mono ?_; rintro e w1 ⟨v1, rfl, hb1, L, rfl, hL, hLg⟩; have l0 := hLg.1.at 0 _ rfl; have HB1 := Lib.hid hb1; have HLG := Lib.hid hLg; clear hb1 hLg)
        | (go_at_call 29; refine (HR.out _ (HD.out.below HB1.out)).mono ?_; rintro e w2 ⟨v2, rfl, hb2, rfl⟩))
      go_ret2
      rw [HO.out]
      exact ⟨⟨rfl, ((HD.out.below HB1.out).below hb2).keepF (fun _ _ _ => rfl) fun b hb => .inl hb⟩, Kept.of_below (below_step HB1.out hb2)⟩
    · have hbl := read_len HD.out hr
      have HR : Hid (∀ W, DiskIn F W D s → Calls Tryd.prog 29 #[.pointer (some ⟨D, 0, none⟩), .string ⟨(segName seg).toArray⟩] W (RetB W (ResB W.heap.size (.ok b)))) := fun W h => by
        have := dreadI h (segName seg)
        rw [hr] at this
        exact this
      by_cases h1 : b.length < at_
      · have HO : Hid (logOpen s seg at_ size = (.error 3, s)) := by unfold Hid logOpen; rw [HQ.out, if_pos rfl, hr]; simp only; rw [if_pos h1]
        have hd1 : decide (b.length < at_) = true := decide_eq_true h1
        clear hr
        go_enter Tryd.func13, Tryd.ntmps13
        go_wp2_with (first
          | (go_at_call 50; refine HM.out.mono ?_; rintro e w1 ⟨v1, rfl, hb1, L, rfl, hL, hLg⟩; have l0 := hLg.1.at 0 _ rfl; have HB1 := Lib.hid hb1; have HLG := Lib.hid hLg; clear hb1 hLg)
          | (go_at_call 29; refine (HR.out _ (HD.out.below HB1.out)).mono ?_; rintro e w2 ⟨v2, rfl, hb2, u2, rfl, ho2⟩; obtain ⟨A2, k2, hu2, hk1, hk2, hx2⟩ := ho2.sl.one; subst hu2; clear hx2))
        go_ret2
        rw [HO.out]
        exact ⟨⟨rfl, ((HD.out.below HB1.out).below hb2).keepF (fun _ _ _ => rfl) fun b hb => .inl hb⟩, Kept.of_below (below_step HB1.out hb2)⟩
      · have hd1 : decide (b.length < at_) = false := decide_eq_false h1
        by_cases h2 : at_ < b.length
        · have hd2 : decide (at_ < b.length) = true := decide_eq_true h2
          have HCT : Hid (∀ W, DiskIn F W D s → Calls Tryd.prog 31 #[.pointer (some ⟨D, 0, none⟩), .string ⟨(segName seg).toArray⟩, .int .i64 at_] W (OpPost F W D (s.cut (segName seg) at_))) := fun W h => dcutI h _ _
          have HO : Hid (logOpen s seg at_ size = if (s.cut (segName seg) at_).1 = 0 then (.ok ⟨seg, at_, size, seg + 1, false⟩, (s.cut (segName seg) at_).2) else (.error (s.cut (segName seg) at_).1, (s.cut (segName seg) at_).2)) := by unfold Hid logOpen; rw [HQ.out, if_pos rfl, hr]; simp only; rw [if_neg h1, if_pos h2]
          clear hr
          go_enter Tryd.func13, Tryd.ntmps13
          go_wp2_with (first
            | (go_at_call 50; refine HM.out.mono ?_; rintro e w1 ⟨v1, rfl, hb1, L, rfl, hL, hLg⟩; have l0 := hLg.1.at 0 _ rfl; have HB1 := Lib.hid hb1; have HLG := Lib.hid hLg; clear hb1 hLg)
            | (go_at_call 29; refine (HR.out _ (HD.out.below HB1.out)).mono ?_; rintro e w2 ⟨v2, rfl, hb2, u2, rfl, ho2⟩; obtain ⟨A2, k2, hu2, hk1, hk2, hx2⟩ := ho2.sl.one; subst hu2; have m0 := cell_below hb2 l0; have HB2 := Lib.hid hb2; clear hx2 hb2 ho2))
          refine (HCT.out _ ((HD.out.below HB1.out).below HB2.out)).mono ?_
          intro e w3 hp3
          obtain ⟨rfl, hD3, hK3⟩ := hp3.disk
          have hLlt := HLG.out.1.lt
          have hLF : ¬ F L := fun h => by have := HFB.out L h; omega
          have hLg3 := (HLG.out.below HB2.out).kept hK3 hLF
          have n2 := hLg3.1.at 2 _ rfl
          have n4 := hLg3.1.at 4 _ rfl
          have nf2 := hLg3.1.frozen 2
          have nf4 := hLg3.1.frozen 4
          have HD3 := Lib.hid hD3
          have HK3 := Lib.hid hK3
          have HL3 := Lib.hid hLg3
          have HS : Hid (w.heap.size ≤ w1.heap.size ∧ w1.heap.size ≤ w2.heap.size ∧ w2.heap.size ≤ w3.heap.size) := ⟨HB1.out.size, HB2.out.size, hK3.size⟩
          clear hp3 hD3 hK3 hLg3 l0 m0
          rcases hc : (s.cut (segName seg) at_).1 == 0 with _ | _
          · have hn : ((s.cut (segName seg) at_).1 != 0) = true := by rw [bne, hc]; rfl
            have HC := Lib.hid hc
            clear hc
            go_wp2_with fail
            go_ret2
            have hc0 : ¬ (s.cut (segName seg) at_).1 = 0 := by simpa using HC.out
            rw [HO.out, if_neg hc0]
            exact ⟨⟨rfl, HD3.out.keepF (fun _ _ _ => rfl) fun b hb => hb.imp id fun h => by have := HS.out; omega⟩, (Kept.of_below (below_step HB1.out HB2.out)).trans HK3.out fun i _ h => h⟩
          · have hn : ((s.cut (segName seg) at_).1 != 0) = false := by rw [bne, hc]; rfl
            have HC := Lib.hid hc
            clear hc
            go_wp2_with fail
            go_ret2
            have hc0 : (s.cut (segName seg) at_).1 = 0 := by simpa using HC.out
            have hLn : ∀ b, (F b ∨ w2.heap.size ≤ b) → b ≠ L := fun b hb e => by
              subst e
              rcases hb with hb | hb
              · exact hLF hb
              · have := HS.out; omega
            rw [HO.out, if_pos hc0]
            refine ⟨⟨L, rfl, hL, HL3.out.set ((HL3.out.1.set 2 _).set 4 _) hseg rfl, ?_⟩, ?_⟩
            · exact HD3.out.keepF (fun b hb _ => (Below.heap_setCell _ _ _ b (hLn b hb)).trans (Below.heap_setCell _ _ _ b (hLn b hb))) fun b hb => ⟨hb.imp id fun h => by have := HS.out; omega, hLn b hb⟩
            · refine ((Kept.of_below (below_step HB1.out HB2.out)).trans HK3.out fun i _ h => h).trans (G := fun b => b = L) ?_ fun i hi e => by omega
              exact kept_set (B := L) (kept_set (B := L) (Kept.refl _ _) _ _) _ _
        · have hd2 : decide (at_ < b.length) = false := decide_eq_false h2
          have HO : Hid (logOpen s seg at_ size = (.ok ⟨seg, at_, size, seg + 1, false⟩, s)) := by unfold Hid logOpen; rw [HQ.out, if_pos rfl, hr]; simp only; rw [if_neg h1, if_neg h2]
          clear hr
          go_enter Tryd.func13, Tryd.ntmps13
          go_wp2_with (first
            | (go_at_call 50; refine HM.out.mono ?_; rintro e w1 ⟨v1, rfl, hb1, L, rfl, hL, hLg⟩; have l0 := hLg.1.at 0 _ rfl; have HB1 := Lib.hid hb1; have HLG := Lib.hid hLg; clear hb1 hLg)
            | (go_at_call 29; refine (HR.out _ (HD.out.below HB1.out)).mono ?_; rintro e w2 ⟨v2, rfl, hb2, u2, rfl, ho2⟩; obtain ⟨A2, k2, hu2, hk1, hk2, hx2⟩ := ho2.sl.one; subst hu2; have hLg2 := HLG.out.below hb2; have m0 := hLg2.1.at 0 _ rfl; have n2 := hLg2.1.at 2 _ rfl; have n4 := hLg2.1.at 4 _ rfl; have nf2 := hLg2.1.frozen 2; have nf4 := hLg2.1.frozen 4; have HL2 := Lib.hid hLg2; have HB2 := Lib.hid hb2; clear hx2 hb2 ho2 hLg2))
          go_ret2
          have hLlt := HLG.out.1.lt
          have hLF : ¬ F L := fun h => by have := HFB.out L h; omega
          rw [HO.out]
          refine ⟨⟨L, rfl, hL, HL2.out.set ((HL2.out.1.set 2 _).set 4 _) hseg rfl, ?_⟩, ?_⟩
          · exact ((HD.out.below HB1.out).below HB2.out).keepF (fun b hb _ => (Below.heap_setCell _ _ _ b (fun e => by have e : b = L := e; subst e; exact hLF hb)).trans (Below.heap_setCell _ _ _ b (fun e => by have e : b = L := e; subst e; exact hLF hb))) fun b hb => ⟨.inl hb, fun e => hLF (e ▸ hb)⟩
          · refine (Kept.of_below (F := F) (below_step HB1.out HB2.out)).trans (G := fun b => b = L) ?_ fun i hi e => by omega
            exact kept_set (B := L) (kept_set (B := L) (Kept.refl _ _) _ _) _ _

/-! ### End -/
set_option maxHeartbeats 800000 in
theorem end_any {w : World} {L D : Nat} {g : PLog} (h : LogAt w L D g) : Calls Tryd.prog 45 #[ptrV L] w (RetD w (.tuple #[.int .u64 g.seg, .int .u64 g.at_])) := by
  have l1 := h.1.at 1 _ rfl
  have l2 := h.1.at 2 _ rfl
  clear h
  unfold ptrV
  go_enter Tryd.func45, Tryd.ntmps45
  go_wp2
  go_quiet (fail)
  go_wp2
  go_ret2
  exact ⟨rfl, _, rfl⟩

end Go.Proofs.YtocmnhjgknaocaaDoor
