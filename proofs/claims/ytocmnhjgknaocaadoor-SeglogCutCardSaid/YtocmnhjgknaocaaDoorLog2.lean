import Derived.Test.YtocmnhjgknaocaaDoorLog1
set_option linter.unusedVariables false
set_option linter.unusedSimpArgs false
set_option maxRecDepth 100000
namespace Go.Proofs.YtocmnhjgknaocaaDoor
open Go.RowKit Tb
open Go.ChangeMaps (setBlock)

theorem LogAt.set {w : World} {L D : Nat} {g g' : PLog} (h : LogAt w L D g) {w' : World} (hB : Blk w' L [ptrV D, .int .u64 g'.seg, .int .u64 g'.at_, .int .i64 g'.most, .int .u64 g'.dirty, .bool g'.begun] 103) (h1 : g'.seg < 10000000000) (h2 : g'.most = g.most) : LogAt w' L D g' :=
  ⟨hB, h1, by rw [h2]; exact h.2.2.1, by rw [h2]; exact h.2.2.2⟩

/-! ### Begin -/
def logBegin (s : PDisk) (seg : Nat) (size : Int) (f : Nat) : Except Int PLog × PDisk :=
  if madeOk seg size then
    if (s.create (segName seg) f).1 = 0 then (.ok ⟨seg, 0, size, seg, true⟩, (s.create (segName seg) f).2) else (.error (s.create (segName seg) f).1, (s.create (segName seg) f).2)
  else (.error 1, s)
/-- A log, or an error. -/
def LogOr (F : Nat → Prop) (w : World) (D : Nat) (q : Except Int PLog × PDisk) (e : Ending) (w' : World) : Prop :=
  match q.1 with
  | .error er => e = .returned (.tuple #[.pointer none, .int .i64 er]) ∧ DiskIn (fun b => F b ∨ w.heap.size ≤ b) w' D q.2
  | .ok g => ∃ L, e = .returned (.tuple #[ptrV L, .int .i64 0]) ∧ w.heap.size ≤ L ∧ LogAt w' L D g ∧ DiskIn (fun b => (F b ∨ w.heap.size ≤ b) ∧ b ≠ L) w' D q.2
def BeginPost (F : Nat → Prop) (w : World) (D : Nat) (s : PDisk) (seg : Nat) (size : Int) (e : Ending) (w' : World) : Prop :=
  ∃ f, w.heap.size ≤ f ∧ LogOr F w D (logBegin s seg size f) e w' ∧ Kept F w w'

set_option maxHeartbeats 1600000 in
theorem begin_any {F : Nat → Prop} {w : World} {D : Nat} {s : PDisk} (hD : DiskIn F w D s) (hFb : ∀ b, F b → b < w.heap.size) (ht : Tab w) (seg : Nat) (h64 : seg < 18446744073709551616) (size : Int) (hlong : s.steps.length < 1000000000) (hmany : s.ids.length < 1000000000) :
    Calls Tryd.prog 44 #[ptrV D, .int .u64 seg, .int .i64 size] w (BeginPost F w D s seg size) := by
  have HM := Lib.hid (made_any D seg size h64 w ht)
  have HFB := Lib.hid hFb
  have HD := Lib.hid hD
  clear hD hFb
  rcases hq : madeOk seg size with _ | _
  · unfold MadePost at HM
    rw [hq] at HM
    have HQ : Hid (∀ f, logBegin s seg size f = (.error 1, s)) := fun f => by unfold logBegin; rw [hq]; rfl
    clear hq
    unfold ptrV at *
    go_enter Tryd.func44, Tryd.ntmps44
    go_wp2_with (go_at_call 50; refine HM.out.mono ?_; rintro e w1 ⟨v1, rfl, hb1, rfl⟩)
    go_ret2
    refine ⟨w.heap.size, Nat.le_refl _, ?_, Kept.of_below hb1⟩
    rw [HQ.out]
    exact ⟨rfl, (HD.out.below hb1).keepF (fun _ _ _ => rfl) fun b hb => .inl hb⟩
  · unfold MadePost at HM
    rw [hq] at HM
    have hseg : seg < 10000000000 := by unfold madeOk at hq; simp at hq; omega
    have hnl := segName_len hseg
    have HQ := Lib.hid hq
    clear hq
    unfold ptrV at *
    go_enter Tryd.func44, Tryd.ntmps44
    go_wp2_with (go_at_call 50; refine HM.out.mono ?_; rintro e w1 ⟨v1, rfl, hb1, L, rfl, hL, hLg⟩; have l0 := hLg.1.at 0 _ rfl; have l5 := hLg.1.at 5 _ rfl; have lf5 := hLg.1.frozen 5; have HB1 := Lib.hid hb1; have HLG := Lib.hid hLg; clear hb1 hLg)
    obtain ⟨mS, mT, vT, bv, hD1⟩ := HD.out.below HB1.out
    refine (create_any hD1 (segName seg) (by omega) hlong hmany).mono ?_
    rintro e w2 ⟨f, mT', vT', bv', hf, rfl, hD2, hk2⟩
    have hLlt := HLG.out.1.lt
    have hLF : ¬ F L := fun h => by have := HFB.out L h; omega
    have hLg2 := HLG.out.kept hk2 hLF
    have m5 := hLg2.1.at 5 _ rfl
    have mf5 := hLg2.1.frozen 5
    have HD2 := Lib.hid hD2
    have HK2 := Lib.hid hk2
    have HL2 := Lib.hid hLg2
    have HB : Hid (w.heap.size ≤ w1.heap.size ∧ w1.heap.size ≤ w2.heap.size) := ⟨HB1.out.size, hk2.size⟩
    have HX := Lib.hid hf
    clear hD1 hD2 hk2 hLg2 l0 l5 lf5 hf
    rcases hc : (s.create (segName seg) f).1 == 0 with _ | _
    · have hn : ((s.create (segName seg) f).1 != 0) = true := by rw [bne, hc]; rfl
      have HC := Lib.hid hc
      clear hc
      go_wp2_with fail
      go_ret2
      have hc0 : ¬ (s.create (segName seg) f).1 = 0 := by simpa using HC.out
      refine ⟨f, by have := HX.out; have := HB.out; omega, ?_, (Kept.of_below HB1.out).trans HK2.out fun i _ h => h⟩
      unfold LogOr logBegin
      rw [HQ.out, if_pos rfl, if_neg hc0]
      exact ⟨rfl, ⟨_, _, _, _, HD2.out.keepF (fun _ _ _ => rfl) fun b hb => hb.imp id fun h => by have := HB.out; omega⟩⟩
    · have hn : ((s.create (segName seg) f).1 != 0) = false := by rw [bne, hc]; rfl
      have HC := Lib.hid hc
      clear hc
      go_wp2_with fail
      go_ret2
      have hc0 : (s.create (segName seg) f).1 = 0 := by simpa using HC.out
      refine ⟨f, by have := HX.out; have := HB.out; omega, ?_, ?_⟩
      · unfold LogOr logBegin
        rw [HQ.out, if_pos rfl, if_pos hc0]
        refine ⟨L, rfl, hL, HL2.out.set (HL2.out.1.set 5 _) hseg rfl, ?_⟩
        have hD3 : DiskIn (fun b => (F b ∨ w1.heap.size ≤ b)) (w2.setCell ⟨L, 5, none⟩ (.bool true)) D _ := ⟨_, _, _, _, HD2.out.keepF (w' := w2.setCell ⟨L, 5, none⟩ (.bool true)) (fun b hb _ => Below.heap_setCell w2 _ _ b (fun e => by
          have e : b = L := e
          subst e
          rcases hb with hb | hb
          · exact hLF hb
          · omega)) fun b hb => hb⟩
        exact hD3.keepF (fun _ _ _ => rfl) fun b hb => ⟨hb.imp id fun h => by have := HB.out; omega, fun e => by
          subst e
          rcases hb with hb | hb
          · exact hLF hb
          · omega⟩
      · refine ((Kept.of_below HB1.out).trans HK2.out fun i _ h => h).trans (c := w2.setCell ⟨L, 5, none⟩ (.bool true)) (G := fun b => b = L) ⟨rfl, rfl, rfl, by simp [World.setCell], fun k _ hn => Below.heap_setCell w2 _ _ k hn⟩ fun i hi e => by omega

/-! ### turn -/
def logTurn (s : PDisk) (g : PLog) (f : Nat) : Int × PDisk × PLog :=
  if g.seg + 1 < 10000000000 then
    if (s.create (segName (g.seg + 1)) f).1 = 0 then (0, (s.create (segName (g.seg + 1)) f).2, { g with seg := g.seg + 1, at_ := 0, begun := true }) else ((s.create (segName (g.seg + 1)) f).1, (s.create (segName (g.seg + 1)) f).2, g)
  else (4, s, g)
def TurnPost (F : Nat → Prop) (w : World) (D L : Nat) (s : PDisk) (g : PLog) (e : Ending) (w' : World) : Prop :=
  ∃ f, w.heap.size ≤ f ∧ e = .returned (.int .i64 (logTurn s g f).1) ∧ DiskIn (fun b => F b ∨ w.heap.size ≤ b) w' D (logTurn s g f).2.1 ∧ LogAt w' L D (logTurn s g f).2.2 ∧ Kept (fun b => F b ∨ b = L) w w'

set_option maxHeartbeats 1600000 in
theorem turn_any {F : Nat → Prop} {w : World} {D L : Nat} {s : PDisk} {g : PLog} (hD : DiskIn F w D s) (hLg : LogAt w L D g) (hLF : ¬ F L) (ht : Tab w) (hlong : s.steps.length < 1000000000) (hmany : s.ids.length < 1000000000) :
    Calls Tryd.prog 53 #[ptrV L] w (TurnPost F w D L s g) := by
  have l0 := hLg.1.at 0 _ rfl
  have l1 := hLg.1.at 1 _ rfl
  have hseg := hLg.2.1
  have hLlt := hLg.1.lt
  have HLG := Lib.hid hLg
  have HD := Lib.hid hD
  clear hD hLg
  unfold ptrV at *
  by_cases h1 : g.seg + 1 < 10000000000
  · have HO := Lib.hid (segOf_any (g.seg + 1) h1 w ht)
    have hnl := segName_len h1
    go_enter Tryd.func53, Tryd.ntmps53
    go_wp2_with (go_at_call 36; refine HO.out.mono ?_; rintro e w1 ⟨v1, rfl, hb1, rfl⟩; have m0 := cell_below hb1 l0; have HB1 := Lib.hid hb1; clear hb1)
    obtain ⟨mS, mT, vT, bv, hD1⟩ := HD.out.below HB1.out
    refine (create_any hD1 (segName (g.seg + 1)) (by omega) hlong hmany).mono ?_
    rintro e w2 ⟨f, mT', vT', bv', hf, rfl, hD2, hk2⟩
    have hLg2 := (HLG.out.below HB1.out).kept hk2 hLF
    have n1 := hLg2.1.at 1 _ rfl
    have n2 := hLg2.1.at 2 _ rfl
    have n5 := hLg2.1.at 5 _ rfl
    have nf1 := hLg2.1.frozen 1
    have nf2 := hLg2.1.frozen 2
    have nf5 := hLg2.1.frozen 5
    have HD2 := Lib.hid hD2
    have HK2 := Lib.hid hk2
    have HL2 := Lib.hid hLg2
    have HB : Hid (w.heap.size ≤ w1.heap.size ∧ w1.heap.size ≤ w2.heap.size) := ⟨HB1.out.size, hk2.size⟩
    have HX := Lib.hid hf
    clear hD1 hD2 hk2 hLg2 l0 l1 m0 hf
    rcases hc : (s.create (segName (g.seg + 1)) f).1 == 0 with _ | _
    · have hn : ((s.create (segName (g.seg + 1)) f).1 != 0) = true := by rw [bne, hc]; rfl
      have HC := Lib.hid hc
      clear hc
      go_wp2_with fail
      go_ret
      have hc0 : ¬ (s.create (segName (g.seg + 1)) f).1 = 0 := by simpa using HC.out
      have hq : logTurn s g f = ((s.create (segName (g.seg + 1)) f).1, (s.create (segName (g.seg + 1)) f).2, g) := by unfold logTurn; rw [if_pos h1, if_neg hc0]
      refine ⟨f, by have := HX.out; have := HB.out; omega, by rw [hq]; rfl, ?_, ?_, ?_⟩
      · rw [hq]
        exact ⟨_, _, _, _, HD2.out.keepF (fun _ _ _ => rfl) fun b hb => hb.imp id fun h => by have := HB.out; omega⟩
      · rw [hq]
        exact HL2.out
      · exact ((Kept.of_below HB1.out).trans HK2.out fun i _ h => h).mono fun b h => .inl h
    · have hn : ((s.create (segName (g.seg + 1)) f).1 != 0) = false := by rw [bne, hc]; rfl
      have HC := Lib.hid hc
      clear hc
      go_wp2_with fail
      go_ret
      have hc0 : (s.create (segName (g.seg + 1)) f).1 = 0 := by simpa using HC.out
      have hq : logTurn s g f = (0, (s.create (segName (g.seg + 1)) f).2, { g with seg := g.seg + 1, at_ := 0, begun := true }) := by unfold logTurn; rw [if_pos h1, if_pos hc0]
      have hLn : ∀ b, (F b ∨ w1.heap.size ≤ b) → b ≠ L := fun b hb e => by
        subst e
        rcases hb with hb | hb
        · exact hLF hb
        · have := HB.out; omega
      refine ⟨f, by have := HX.out; have := HB.out; omega, by rw [hq]; rfl, ?_, ?_, ?_⟩
      · rw [hq]
        exact DiskIn.keepF (F := fun b => F b ∨ w1.heap.size ≤ b) (w := w2) ⟨_, _, _, _, HD2.out⟩ (fun b hb _ => (Below.heap_setCell _ _ _ b (hLn b hb)).trans ((Below.heap_setCell _ _ _ b (hLn b hb)).trans (Below.heap_setCell _ _ _ b (hLn b hb)))) fun b hb => hb.imp id fun h => by have := HB.out; omega
      · rw [hq]
        exact HL2.out.set (((HL2.out.1.set 1 _).set 2 _).set 5 _) h1 rfl
      · refine (((Kept.of_below HB1.out).trans HK2.out fun i _ h => h).mono fun b h => .inl h).trans (G := fun b => b = L) ?_ fun i _ e => .inr e
        exact kept_set (B := L) (kept_set (B := L) (kept_set (B := L) (Kept.refl _ _) _ _) _ _) _ _
  · have HO := Lib.hid (segOf_bad (g.seg + 1) h1 (by omega) w ht)
    go_enter Tryd.func53, Tryd.ntmps53
    go_wp2_with (go_at_call 36; refine HO.out.mono ?_; rintro e w1 ⟨v1, rfl, hb1, rfl⟩)
    go_ret
    have hq : ∀ f, logTurn s g f = (4, s, g) := fun f => by unfold logTurn; rw [if_neg h1]
    refine ⟨w.heap.size, Nat.le_refl _, by rw [hq]; rfl, ?_, ?_, (Kept.of_below hb1)⟩
    · rw [hq]
      exact (HD.out.below hb1).keepF (fun _ _ _ => rfl) fun b hb => .inl hb
    · rw [hq]
      exact HLG.out.below hb1

end Go.Proofs.YtocmnhjgknaocaaDoor
