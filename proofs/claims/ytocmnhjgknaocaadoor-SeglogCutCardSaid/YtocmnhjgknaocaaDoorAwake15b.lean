import Derived.Test.YtocmnhjgknaocaaDoorLaw15c
set_option linter.unusedVariables false
set_option linter.unusedSimpArgs false
set_option maxRecDepth 100000
namespace Go.Proofs.YtocmnhjgknaocaaDoor
open Go.RowKit Tb

/-! ### awake: what is fixed, in plain terms -/
def tickR : Rec := ⟨7, [5], []⟩
theorem tick_ok : OkRec tickR := ⟨by decide, by simp [tickR]⟩
theorem tick_len : (rawOf tickR).length = 12 := by
  rw [rawOf_length]
  have : vall [5] = [5] := by simp [vall, vput_small]
  simp [recFrm, tickR, this]
/-- A disk with one file. -/
structure Aw (s : PDisk) (f : Nat) (b : List UInt8) : Prop where
  up : s.down = false
  fuse : s.fuse = -1
  room : s.room = 200
  now : s.now = [(segName 1, f)]
  ids : s.ids = [f]
  steps : s.steps.length ≤ 1
  file : (s.file f).b = b
theorem Aw.can {s : PDisk} {f : Nat} {b : List UInt8} (h : Aw s f b) : s.can 0 = (0, s) := by
  unfold PDisk.can
  rw [h.up, h.fuse]
  simp
theorem Aw.get {s : PDisk} {f : Nat} {b : List UInt8} (h : Aw s f b) : dirGet s.now (segName 1) = some f := by
  rw [h.now]
  show (if segName 1 = segName 1 then some f else _) = _
  rw [if_pos rfl]
theorem Aw.held {s : PDisk} {f : Nat} {b : List UInt8} (h : Aw s f b) : s.held ≤ b.length := by
  unfold PDisk.held
  rw [h.ids, List.filter_cons]
  split
  · simp [sumLen, PDisk.len, h.file]
  · simp [sumLen]
theorem Aw.first (f : Nat) : ((PDisk.new 200).create (segName 1) f).1 = 0 ∧ Aw ((PDisk.new 200).create (segName 1) f).2 f [] := by
  have he : (PDisk.new 200).createErr (segName 1) = 0 := by
    unfold PDisk.createErr
    rw [if_neg (by rw [nameOk_seg (n := 1) (by decide)]; simp)]
    rfl
  have hc : (PDisk.new 200).can 0 = (0, PDisk.new 200) := rfl
  unfold PDisk.create
  rw [he, hc]
  exact ⟨rfl, rfl, rfl, rfl, rfl, rfl, Nat.le_refl _, by simp [PDisk.add]⟩
theorem Aw.append {s : PDisk} {f : Nat} {b : List UInt8} (h : Aw s f b) (x : List UInt8) (hl : b.length + x.length ≤ 200) : (s.append (segName 1) x).1 = 0 ∧ Aw (s.append (segName 1) x).2 f (b ++ x) := by
  have hh := h.held
  have he : s.appendErr (segName 1) x = 0 := by
    unfold PDisk.appendErr
    rw [h.get]
    simp only
    rw [if_neg (by rw [h.room]; omega)]
  unfold PDisk.append
  rw [he, h.can, h.get]
  exact ⟨rfl, h.up, h.fuse, h.room, h.now, h.ids, h.steps, by simp [PDisk.setFile, h.file]⟩
theorem Aw.read {s : PDisk} {f : Nat} {b : List UInt8} (h : Aw s f b) : s.read (segName 1) = .ok b := by
  unfold PDisk.read
  rw [h.up, h.get]
  simp [h.file]
theorem Aw.sync {s : PDisk} {f : Nat} {b : List UInt8} (h : Aw s f b) : (s.sync (segName 1)).1 = 0 ∧ Aw (s.sync (segName 1)).2 f b := by
  have he : s.there (segName 1) = 0 := by
    unfold PDisk.there
    rw [h.get]
  unfold PDisk.sync
  rw [he, h.can, h.get]
  exact ⟨rfl, h.up, h.fuse, h.room, h.now, h.ids, h.steps, by simp [PDisk.setFile, h.file]⟩
theorem aw_begin (f : Nat) : ∃ s, logBegin (PDisk.new 200) 1 64 f = (.ok ⟨1, 0, 64, 1, true⟩, s) ∧ Aw s f [] := by
  have h := Aw.first f
  refine ⟨_, ?_, h.2⟩
  unfold logBegin
  rw [if_pos (by decide), if_pos h.1]
theorem Aw.app {s : PDisk} {f : Nat} (h : Aw s f []) (f' : Nat) : ∃ s', logAppend s ⟨1, 0, 64, 1, true⟩ tickR f' = ((1, 0, 0), s', ⟨1, 12, 64, 1, true⟩) ∧ Aw s' f (rawOf tickR) := by
  have ha := h.append (rawOf tickR) (by rw [tick_len]; decide)
  refine ⟨(s.append (segName 1) (rawOf tickR)).2, ?_, ha.2⟩
  unfold logAppend
  rw [recBytes_ok tick_ok]
  simp only
  rw [if_neg (by omega)]
  unfold logPut
  simp only
  rw [if_neg (by simp), if_pos ha.1, tick_len]
  rfl
theorem recAll_nil : recAll [] = ([], [], 0) := by decide
theorem Aw.at0 {s : PDisk} {f : Nat} (h : Aw s f (rawOf tickR)) : logAt s 1 0 = .ok (tickR, 12) := by
  unfold logAt
  rw [if_pos (by decide), h.read]
  simp only
  unfold logRec
  rw [if_neg (by omega), List.drop_zero]
  have := recAll_cons tick_ok []
  rw [List.append_nil] at this
  rw [this, tick_len]
theorem Aw.at12 {s : PDisk} {f : Nat} (h : Aw s f (rawOf tickR)) : logAt s 1 12 = .error 3 := by
  unfold logAt
  rw [if_pos (by decide), h.read]
  simp only
  unfold logRec
  rw [if_neg (by rw [tick_len]; omega), List.drop_eq_nil_of_le (by rw [tick_len]; omega), recAll_nil]
  rfl
theorem Aw.open13 {s : PDisk} {f : Nat} (h : Aw s f (rawOf tickR)) : logOpen s 1 13 64 = (.error 3, s) := by
  unfold logOpen
  rw [if_pos (by decide), h.read]
  simp only
  rw [if_pos (by rw [tick_len]; omega)]
theorem Aw.syncs {s : PDisk} {f : Nat} {b : List UInt8} (h : Aw s f b) : (logSync s ⟨1, 12, 64, 1, true⟩).1 = 0 := by
  have h1 := h.sync
  have ha : syncAll s ⟨1, 12, 64, 1, true⟩ = (0, (s.sync (segName 1)).2) := by
    show syncN 1 1 s = _
    unfold syncN
    rw [if_pos h1.1]
    rfl
  have hd : (s.sync (segName 1)).2.dirSync.1 = 0 := by
    unfold PDisk.dirSync
    rw [h1.2.can]
    rfl
  unfold logSync
  rw [ha]
  simp only [if_true]
  rw [if_pos hd]

end Go.Proofs.YtocmnhjgknaocaaDoor

set_option linter.unusedVariables false
set_option linter.unusedSimpArgs false
set_option maxRecDepth 100000
namespace Go.Proofs.YtocmnhjgknaocaaDoor
open Go.RowKit Tb

set_option maxHeartbeats 3200000 in
theorem awake15_any (w : World) (ht : Tab w) : Calls Tryd.prog 9 #[] w (RetB w fun v _ => v = .bool true) := by
  have HT := Lib.hid ht
  have HN := Lib.hid (new_any 200 w)
  clear ht
  go_enter Tryd.func9, Tryd.ntmps9
  go_wp2_with fail
  refine HN.out.mono ?_
  rintro e w1 ⟨v1, rfl, hb1, hp1⟩
  unfold NewPost at hp1
  rw [if_neg (by decide)] at hp1
  obtain ⟨D, mS, rfl, hD1⟩ := hp1
  have hD1 : DiskIn (fun b => w.heap.size ≤ b ∧ b < w1.heap.size) w1 D (PDisk.new 200) := DiskIn.bound ⟨_, _, _, _, hD1⟩
  have HBG := Lib.hid (begin_any hD1 (fun b h => h.2) (HT.out.below hb1) 1 (by decide) 64 (by decide) (by decide))
  have HB1 := Lib.hid hb1
  clear hD1 hb1 HN
  unfold ptrV at *
  go_wp2_with fail
  refine HBG.out.mono ?_
  rintro e w2 ⟨f, hf, hq, hK⟩
  have hb2 : Below w.heap.size w w2 := HB1.out.trans (hK.below HB1.out.size fun k hk h => by omega)
  obtain ⟨s1, hs1, ha1⟩ := aw_begin f
  unfold LogOr at hq
  rw [hs1] at hq
  obtain ⟨L, rfl, hL1, hLg, hDk⟩ := hq
  obtain ⟨F, hDk, hFw⟩ : ∃ F : Nat → Prop, DiskIn F w2 D s1 ∧ ∀ b, F b → w.heap.size ≤ b ∧ b < w2.heap.size ∧ b ≠ L := ⟨_, hDk.bound, fun b h => ⟨by have := HB1.out.size; omega, h.2, h.1.2⟩⟩
  have HDK := Lib.hid hDk
  have HLG := Lib.hid hLg
  have HFW := Lib.hid hFw
  have HB2 := Lib.hid hb2
  have HA1 := Lib.hid ha1
  have hLw : w.heap.size ≤ L := Nat.le_trans HB1.out.size hL1
  clear hDk hLg hFw hb2 ha1 HBG hK hs1 hL1 hf
  unfold ptrV
  go_wp2_with fail
  have HW3 : Hid (Below w2.heap.size w2 (w2.alloc (.cells #[.int .u64 5] 22))) := below_alloc (Below.refl _ _) _
  have HL3 : Hid (Sl elU64 (w2.alloc (.cells #[.int .u64 5] 22)) (fun _ => True) (.slice (some ⟨w2.heap.size, 0, none⟩) 1 1) [5]) := lit_sl (enc := fun n : Nat => Value.int .u64 n) w2 [5] 22 (by simp) trivial
  have hgF : ¬ F 1 := fun h => by
    have := (HFW.out _ h).1
    have := HT.out.lt
    omega
  have hap := logAppend_any (HDK.out.below HW3.out) (HLG.out.below HW3.out) (fun h => (HFW.out _ h).2.2 rfl) (fun b h => by have := (HFW.out b h).2.1; have := HW3.out.size; omega) ((HT.out.below HB2.out).below HW3.out) hgF tickR _ _ HL3.out (by decide) (by simp [tickR]) (by decide) (by have := HA1.out.steps; omega) (by rw [HA1.out.ids]; simp)
  unfold ptrV at hap
  refine hap.mono ?_
  clear hap
  rintro e w4 ⟨f4, hf4, rfl, hD4, hL4, hK4⟩
  obtain ⟨s4, hla, ha4⟩ := HA1.out.app f4
  rw [hla] at hD4 hL4 ⊢
  have hK24 : Below w.heap.size w w4 := (below_step HB2.out HW3.out).trans (hK4.below (by have := HB2.out.size; have := HW3.out.size; omega) fun b hb h => by
    rcases h with h | h
    · have := (HFW.out _ h).1; omega
    · omega)
  obtain ⟨G, hD4, hGw⟩ : ∃ G : Nat → Prop, DiskIn G w4 D s4 ∧ ∀ b, G b → w.heap.size ≤ b ∧ b < w4.heap.size ∧ b ≠ L := ⟨_, hD4.bound, fun b h => ⟨by
    rcases h.1 with h | h
    · exact (HFW.out _ h).1
    · have := HB2.out.size; have := HW3.out.size; omega, h.2, by
    rcases h.1 with h | h
    · exact (HFW.out _ h).2.2
    · have := HLG.out.1.lt; have := HW3.out.size; omega⟩⟩
  have HD4 := Lib.hid hD4
  have HL4 := Lib.hid hL4
  have HB4 := Lib.hid hK24
  have HGW := Lib.hid hGw
  have HA4 := Lib.hid ha4
  have HT4 : Hid (Tab w4) := HT.out.below hK24
  clear hD4 hL4 hK24 hGw ha4 hK4 hla HDK HLG HFW HA1 HW3 HL3 hf4 hgF
  go_wp2_with fail
  have hr := logRead_any HD4.out HL4.out HT4.out 1 0 (by decide) (by decide)
  rw [show logAt s4 1 0 = .ok (⟨7, [5], []⟩, 12) from HA4.out.at0] at hr
  unfold ptrV at hr
  refine hr.mono ?_
  clear hr
  rintro e w5 ⟨v5, rfl, hb5, u5, rfl, hs5⟩
  obtain ⟨Ar, cr, hur, hcr1, hcr2, hxr⟩ := hs5.one
  subst hur
  have HB5 := Lib.hid hb5
  clear hb5 hs5 hxr
  go_wp2_with fail
  have HW6 : Hid (Below w5.heap.size w5 (w5.alloc (.cells #[.int .i64 7, .slice Ar 1 cr, .string ⟨#[]⟩] 26))) := below_alloc (Below.refl _ _) _
  have HK6 : Hid (Blk (w5.alloc (.cells #[.int .i64 7, .slice Ar 1 cr, .string ⟨#[]⟩] 26)) w5.heap.size [.int .i64 7, .slice Ar 1 cr, .string ⟨#[]⟩] 26) := Blk.new w5 _ _
  have he := end_any ((HL4.out.below HB5.out).below HW6.out)
  unfold ptrV at he
  refine he.mono ?_
  clear he
  rintro e w7 ⟨rfl, hd7⟩
  have HB7 : Hid (Below w5.heap.size w5 w7) := below_step HW6.out hd7.below
  have HK7 := Lib.hid (HK6.out.belowS hd7.below)
  have HB47 := Lib.hid (below_step HB5.out HB7.out)
  clear hd7 HW6 HK6
  go_wp2_with fail
  have hr := logRead_any (HD4.out.below HB47.out) (HL4.out.below HB47.out) (HT4.out.below HB47.out) 1 12 (by decide) (by decide)
  rw [HA4.out.at12] at hr
  unfold ptrV at hr
  refine hr.mono ?_
  clear hr
  rintro e w8 ⟨v8, rfl, hb8, rfl⟩
  have HK8 := Lib.hid (HK7.out.belowS hb8)
  have HB48 := Lib.hid (below_step HB47.out hb8)
  have HB58 := Lib.hid (below_step HB7.out hb8)
  clear hb8 HK7
  go_wp2_with fail
  have hw9 : Below w8.heap.size w8 (w8.alloc (.cells #[.int .i64 0, .slice none 0 0, .string ⟨#[]⟩] 26)) := below_alloc (Below.refl _ _) _
  have HK9 := Lib.hid (HK8.out.belowS hw9)
  have hb49 := below_step HB48.out hw9
  have HB9 := Lib.hid hb49
  have ho := open_any (HD4.out.below hb49) (fun b h => Nat.lt_of_lt_of_le (HGW.out b h).2.1 hb49.size) (HT4.out.below hb49) 1 13 (by decide) (by decide) 64
  rw [HA4.out.open13] at ho
  unfold ptrV at ho
  refine ho.mono ?_
  clear ho hw9 hb49 HK8
  rintro e w10 ⟨⟨rfl, hD10⟩, hK10⟩
  have hD10 := hD10.bound
  have hK5 : ¬ G w5.heap.size := fun h => by have := (HGW.out _ h).2.1; have := HB5.out.size; omega
  have c10 := (hK10.blk HK9.out hK5).at 0 _ rfl
  have hl10 := (HL4.out.below HB9.out).kept hK10 fun h => (HGW.out _ h).2.2 rfl
  have hg10 : ¬ G 1 := fun h => by
    have := (HGW.out _ h).1
    have := HT.out.lt
    omega
  have hT10 := (HT4.out.below HB9.out).kept hK10 hg10
  have hsy := logSync_any hD10 hl10 (fun h => by
    rcases h.1 with h | h
    · exact (HGW.out _ h).2.2 rfl
    · have := HL4.out.1.lt; have := HB9.out.size; omega) hT10 (fun h => by
    rcases h.1 with h | h
    · exact hg10 h
    · have := HT.out.lt; have := HB4.out.size; have := HB9.out.size; omega)
  unfold ptrV at hsy
  have HSY := Lib.hid hsy
  have HSZ := Lib.hid HA4.out.syncs
  clear hsy hD10 hl10 hT10 hg10 hK5
  have HK10 := Lib.hid hK10
  clear hK10
  go_wp2_with (go_at_call 46; refine HSY.out.mono ?_; rintro e w11 ⟨rfl, hD11, hL11, hK11⟩; rw [HSZ.out])
  go_ret
  have hs4 := HB4.out.size
  have hs9 := HB9.out.size
  have h10 : Below w.heap.size w w10 := (below_step HB4.out HB9.out).trans (HK10.out.below (by omega) fun b hb h => by have := (HGW.out _ h).1; omega)
  have hs10 := h10.size
  refine ⟨_, rfl, h10.trans (hK11.below (by omega) fun b hb h => ?_), rfl⟩
  rcases h with h | h
  · rcases h.1 with h | h
    · have := (HGW.out _ h).1; omega
    · omega
  · omega

end Go.Proofs.YtocmnhjgknaocaaDoor
