import Derived.Test.YtocmnhjgknaocaaDoorCut1
set_option linter.unusedVariables false
set_option linter.unusedSimpArgs false
set_option maxRecDepth 100000
namespace Go.Proofs.YtocmnhjgknaocaaDoor
open Go.RowKit Tb

set_option maxHeartbeats 6400000 in
theorem seglogCut_walk (w : World) (ht : Tab w) (seg : Nat) (h64 : seg < 18446744073709551616) (size : Int) (l : Value) (rs : List Rec) (ok : Nat → Prop) (hv : Sl elRec w ok l rs) (hok : ∀ b, ok b → b < w.heap.size) (hr : ∀ r ∈ rs, ∀ n ∈ r.n, n < 2 ^ 64)
    (cut : Int) (kind : Int) (nums : List Nat) (text : List UInt8) (u : Value) (hu : Sl elU64 w ok u nums) (hnu : ∀ n ∈ nums, n < 2 ^ 64) :
    Calls Tryd.prog 3 #[.int .u64 seg, .int .i64 size, l, .int .i64 cut, .agg #[.int .i64 kind, u, .string ⟨text.toArray⟩]] w (RetB w fun v _ => v = .bool true) := by
  obtain ⟨Au, cu, hue, hcu1, hcu2, hxu⟩ := hu.one
  subst hue
  have HU := Lib.hid hu
  have HV := Lib.hid hv
  have HR := Lib.hid hr
  have HOK := Lib.hid hok
  have HT := Lib.hid ht
  have HNU := Lib.hid hnu
  have HW0 : Hid (Below w.heap.size w (w.alloc (.cells #[.int .i64 kind, .slice Au nums.length cu, .string ⟨text.toArray⟩] 26))) := below_alloc (Below.refl _ _) _
  have HBR : Hid (Blk (w.alloc (.cells #[.int .i64 kind, .slice Au nums.length cu, .string ⟨text.toArray⟩] 26)) w.heap.size [.int .i64 kind, .slice Au nums.length cu, .string ⟨text.toArray⟩] 26) := Blk.new w _ _
  have HAW := Lib.hid (awake15_any _ (HT.out.below HW0.out))
  clear hv hr hok ht hnu hxu hu
  go_enter Tryd.func3, Tryd.ntmps3
  go_wp2_with fail
  refine HAW.out.mono ?_
  rintro e w1 ⟨v1, rfl, hb1, rfl⟩
  have HB1 := Lib.hid (below_step HW0.out hb1)
  have HR1 := Lib.hid (HBR.out.belowS hb1)
  have hw1 : w.heap.size < w1.heap.size := Nat.lt_of_lt_of_le HBR.out.lt hb1.size
  clear hb1 HW0 HBR HAW
  go_wp2_with fail
  refine (full15_any w1 (HT.out.below HB1.out) seg h64 size l rs ok (HV.out.below HB1.out (by decide)) (fun b hb => by have := HOK.out b hb; omega) HR.out).mono ?_
  rintro e w2 (⟨rfl, hb2⟩ | ⟨D, L, v, F, s, g, n, ps, rfl, hfa, h50, hm, hb2⟩)
  · go_wp2_with fail
    go_ret
    exact ⟨_, rfl, below_step HB1.out (below_weak hb2 (Nat.le_refl _)), rfl⟩
  have HB2 := Lib.hid hb2
  have HR2 := Lib.hid (HR1.out.below hb2 hw1)
  have hw2 := hb2.size
  have HFA := Lib.hid hfa
  have hvs := hfa.row.sl hfa.own
  obtain ⟨Av, cv, hve, hcv1, hcv2, hxv⟩ := hvs
  have HVS : Hid (Sl elPlace w2 (fun b => (¬ F b ∧ b ≠ L) ∧ b < w2.heap.size) (.slice Av ps.length cv) ps) := Sl.weak (ok := fun b => ¬ F b ∧ b ≠ L) ⟨Av, cv, rfl, hcv1, hcv2, hxv⟩ (fun b hb hlt => ⟨hb, hlt⟩) (by decide)
  subst hve
  have b0 := HR2.out.at 0 _ rfl
  have b1 := HR2.out.at 1 _ rfl
  have b2 := HR2.out.at 2 _ rfl
  have HM := Lib.hid hm
  have HBW2 := Lib.hid (below_step HB1.out hb2)
  have HU2 := Lib.hid (HU.out.below HBW2.out Nat.one_pos)
  clear hb2 hfa hxv hm HR1 HU HV HR HB1
  unfold ptrV
  by_cases hc0 : cut < 0
  · have hd0 : decide (cut < 0) = true := by simpa using hc0
    go_wp2_with fail
    go_ret
    exact ⟨_, rfl, HBW2.out, rfl⟩
  obtain ⟨k, rfl⟩ := Int.eq_ofNat_of_zero_le (show 0 ≤ cut by omega)
  have hd0 : decide ((k : Int) < 0) = false := by simp
  by_cases hc1 : ps.length ≤ k
  · have hd1 : decide ((ps.length : Int) ≤ (k : Int)) = true := by simpa using hc1
    go_wp2_with fail
    go_ret
    exact ⟨_, rfl, HBW2.out, rfl⟩
  have hd1 : decide ((ps.length : Int) ≤ (k : Int)) = false := by simp; omega
  have hk : k < ps.length := by omega
  clear hc0 hc1
  have HLG := Lib.hid (large05_any ⟨kind, nums, text⟩ _ ok w2 HU2.out)
  by_cases hlg : recLarge ⟨kind, nums, text⟩ = true
  · rw [hlg] at HLG
    go_wp2_with (go_at_call 11; refine HLG.out.mono ?_; rintro e w3 ⟨v3, rfl, hb3, rfl⟩)
    go_ret
    exact ⟨_, rfl, below_step HBW2.out hb3, rfl⟩
  rw [Bool.not_eq_true] at hlg
  have htl : text.length ≤ 1000000000 := by unfold recLarge at hlg; simp at hlg; omega
  rw [hlg] at HLG
  have HRG : Hid (∀ W, Sl elU64 W ok (.slice Au nums.length cu) nums → Calls Tryd.prog 12 #[.agg #[.int .i64 kind, .slice Au nums.length cu, .string ⟨text.toArray⟩]] W (RetB W fun v _ => v = .bool (recRight ⟨kind, nums, text⟩))) := fun W h => right_any ⟨kind, nums, text⟩ _ ok W h htl
  by_cases hrg : ¬ recRight ⟨kind, nums, text⟩ = true
  · rw [Bool.not_eq_true] at hrg
    rw [hrg] at HRG
    go_wp2_with (first
      | (go_at_call 11; refine HLG.out.mono ?_; rintro e w3 ⟨v3, rfl, hb3, rfl⟩; have hr3 := HR2.out.belowS hb3; have e0 := hr3.at 0 _ rfl; have e1 := hr3.at 1 _ rfl; have e2 := hr3.at 2 _ rfl)
      | (go_at_call 12; refine (HRG.out _ (HU2.out.below hb3 Nat.one_pos)).mono ?_; rintro e w4 ⟨v4, rfl, hb4, rfl⟩))
    go_ret
    exact ⟨_, rfl, below_step (below_step HBW2.out hb3) hb4, rfl⟩
  have hrg := Decidable.not_not.1 hrg
  rw [hrg] at HRG
  have HOKR : Hid (OkRec ⟨kind, nums, text⟩) := ⟨hrg, HNU.out⟩
  clear hlg hrg
  obtain ⟨b, o, c3, A2, c2, hve, hc31, hc32, q0, q1, q2, q3, q4, hup⟩ := place_at HVS.out hk
  injection hve with hA hln hcc
  subst hA
  subst hcc
  clear hln
  obtain ⟨x, hx⟩ : ∃ x, x = ps[k] := ⟨_, rfl⟩
  rw [← hx] at q0 q1 q2 q3 q4 hup
  have HX := Lib.hid hx
  have HUP := Lib.hid hup
  have hi1 : (k : Int) < (ps.length : Int) := by omega
  clear hx hup
  go_wp2_with (first
    | (go_at_call 11; refine HLG.out.mono ?_; rintro e w3 ⟨v3, rfl, hb3, rfl⟩; have hr3 := HR2.out.belowS hb3; have e0 := hr3.at 0 _ rfl; have e1 := hr3.at 1 _ rfl; have e2 := hr3.at 2 _ rfl)
    | (go_at_call 12; refine (HRG.out _ (HU2.out.below hb3 Nat.one_pos)).mono ?_; rintro e w4 ⟨v4, rfl, hb4, rfl⟩; have h24 := below_step hb3 hb4; have q0' := cell_below h24 q0; have q1' := cell_below h24 q1; have q2' := cell_below h24 q2; have q3' := cell_below h24 q3; have q4' := cell_below h24 q4))
  have HB5 : Hid (Below w2.heap.size w2 (w4.alloc (.cells #[.int .i64 x.r.kind, .slice A2 x.r.n.length c2, .string ⟨x.r.text.toArray⟩, .int .u64 x.seg, .int .u64 x.at_] 37))) := below_alloc h24 _
  have HK5 : Hid (Blk (w4.alloc (.cells #[.int .i64 x.r.kind, .slice A2 x.r.n.length c2, .string ⟨x.r.text.toArray⟩, .int .u64 x.seg, .int .u64 x.at_] 37)) w4.heap.size [.int .i64 x.r.kind, .slice A2 x.r.n.length c2, .string ⟨x.r.text.toArray⟩, .int .u64 x.seg, .int .u64 x.at_] 37) := Blk.new w4 _ _
  have hs4 := h24.size
  clear hb3 hr3 e0 e1 e2 hb4 h24 q0 q1 q2 q3 q4 q0' q1' q2' q3' q4' b0 b1 b2 HLG HRG
  generalize (w4.alloc (.cells #[.int .i64 x.r.kind, .slice A2 x.r.n.length c2, .string ⟨x.r.text.toArray⟩, .int .u64 x.seg, .int .u64 x.at_] 37)) = w5 at HB5 HK5 ⊢
  go_loopw [66] (fun i wr => ∃ j : Nat, j ≤ ps.length - k ∧ i = .int .i64 j ∧ (∀ m (h : k + m < ps.length), m < j → (ps[k + m]).seg = x.seg) ∧ Below w5.heap.size w5 wr) (fun i _ => ps.length - k - (intOf i).toNat)
  case atStart => exact ⟨0, by omega, rfl, fun m h hm => absurd hm (by omega), Below.refl _ _⟩
  case round =>
    obtain ⟨j, hj, rfl, hall, hbel⟩ := hrel
    have HK := Lib.hid (HK5.out.belowS hbel)
    have HBL := Lib.hid (below_step HB5.out hbel)
    have HBE := Lib.hid hbel
    by_cases hlt : j < ps.length - k
    · obtain ⟨b', o', c3', A3, c4, hve, hc33, hc34, q0, q1, q2, q3, q4, hup⟩ := place_at (HVS.out.below HBL.out (by decide)) (show k + j < ps.length by omega)
      injection hve with hA hln hcc
      injection hA with hA
      injection hA with hA1 hA2
      subst hA1
      subst hA2
      subst hcc
      clear hln hup hc33 hc34
      obtain ⟨y, hy⟩ : ∃ y, y = ps[k + j] := ⟨_, rfl⟩
      rw [← hy] at q0 q1 q2 q3 q4
      rw [show o + (k + j) * 5 = o + k * 5 + j * 5 by omega] at q0 q1 q2 q3 q4
      have HY := Lib.hid hy
      have HALL := Lib.hid hall
      have hi2 : (j : Int) < ((ps.length - k : Nat) : Int) := by omega
      have hi3 : (j : Int) < (ps.length : Int) - (k : Int) := by omega
      have hkx := HK.out.alloc (.cells #[.int .i64 y.r.kind, .slice A3 y.r.n.length c4, .string ⟨y.r.text.toArray⟩, .int .u64 y.seg, .int .u64 y.at_] 37)
      have x3 := hkx.at 3 _ rfl
      have HKX := Lib.hid hkx
      clear hy hall hbel hkx
      by_cases he : y.seg = x.seg
      · have hne : ((y.seg : Int) != (x.seg : Int)) = false := by simp [he]
        have HE := Lib.hid he
        clear he
        go_wp2_with fail
        go_roundw
        case rel =>
          refine ⟨j + 1, by omega, by go_num, fun m h hm => ?_, ?_⟩
          · by_cases hmj : m < j
            · exact HALL.out m h hmj
            · obtain rfl : m = j := by omega
              rw [← HY.out]
              exact HE.out
          · exact below_alloc HBE.out _
        case measure => simp [intOf]; omega
      · have hne : ((y.seg : Int) != (x.seg : Int)) = true := by simp; omega
        clear he
        go_wp2_with fail
        go_ret
        exact ⟨_, rfl, below_alloc (below_step HBW2.out HBL.out) _, rfl⟩
    · obtain rfl : j = ps.length - k := by omega
      have hall2 : ∀ i (hi : i < ps.length), k ≤ i → (ps[i]).seg = (ps[k]).seg := by
        intro i hi hki
        obtain ⟨m, rfl⟩ : ∃ m, i = k + m := ⟨i - k, by omega⟩
        rw [hall m hi (by omega)]
        exact congrArg Place.seg HX.out
      obtain ⟨s2, hop, hst2, hsteps2, hat3⟩ := HFA.out.st.open HM.out HFA.out.pos hk HFA.out.last hall2
      rw [← HX.out] at hop hst2 hat3
      have hxb : x.at_ ≤ 8750 ∧ x.seg ≤ 2000 := by
        have h1 := HFA.out.st.at_le hk
        have h2 := (HFA.out.st.ok ps[k] (List.getElem_mem _)).2.2
        have h3 := HFA.out.st.small
        have h4 := HFA.out.st.many
        rw [← HX.out] at h1 h2
        omega
      have hFL : ∀ b, F b → w1.heap.size ≤ b ∧ b < w2.heap.size := HFA.out.fB
      have hgF : ¬ F 1 := fun h => by have := (hFL _ h).1; have := HT.out.lt; omega
      have x3 := HK.out.at 3 _ rfl
      have x4 := HK.out.at 4 _ rfl
      have HOPN := open_any (HFA.out.disk.below HBL.out) (fun b h => Nat.lt_of_lt_of_le (hFL b h).2 HBL.out.size) ((HT.out.below HBW2.out).below HBL.out) x.seg x.at_ (by omega) (by omega) size
      rw [hop] at HOPN
      unfold ptrV at HOPN
      have HOPN := Lib.hid HOPN
      have HFL := Lib.hid hFL
      have HST2 := Lib.hid hst2
      have HAT3 := Lib.hid hat3
      have HGF := Lib.hid hgF
      have hnlt : ¬ ((ps.length - k : Nat) : Int) < ((ps.length - k : Nat) : Int) := by omega
      clear hall hall2 hop hst2 hat3 hgF hFL hbel hlt
      go_wp2_with fail
      refine HOPN.out.mono ?_
      rintro e w6 ⟨⟨L2, rfl, hL2, hLg2, hD2⟩, hK6⟩
      obtain ⟨F2, hD2, hF2⟩ : ∃ F2 : Nat → Prop, DiskIn F2 w6 D s2 ∧ ∀ b, F2 b → (F b ∨ wr.heap.size ≤ b) ∧ b ≠ L2 ∧ b < w6.heap.size := ⟨_, hD2.bound, fun b h => ⟨h.1.1, h.1.2, h.2⟩⟩
      have hwr := HBL.out.size
      have hs6 := hK6.size
      have hwr5 := HBE.out.size
      have hx4 := HK.out.lt
      have hKx : Blk w6 w4.heap.size [.int .i64 x.r.kind, .slice A2 x.r.n.length c2, .string ⟨x.r.text.toArray⟩, .int .u64 x.seg, .int .u64 x.at_] 37 := hK6.blk HK.out fun h => by have := (HFL.out _ h).2; omega
      have hKr : Blk w6 w.heap.size [.int .i64 kind, .slice Au nums.length cu, .string ⟨text.toArray⟩] 26 := hK6.blk (HR2.out.belowS HBL.out) fun h => by have := (HFL.out _ h).1; omega
      have hVS := Sl.kept (HVS.out.below HBL.out (by decide)) hK6 (fun b hb h => hb.1.1 h) (by decide)
      have hT6 := ((HT.out.below HBW2.out).below HBL.out).kept hK6 HGF.out
      have hU6 := Sl.kept (HU2.out.below HBL.out Nat.one_pos) hK6 (fun b hb h => by have := HOK.out b hb; have := (HFL.out _ h).1; omega) Nat.one_pos
      have hB6 : Below w.heap.size w w6 := (below_step HBW2.out HBL.out).trans (hK6.below (by omega) fun b hb h => by have := (HFL.out _ h).1; omega)
      have HKX := Lib.hid hKx
      have HKR := Lib.hid hKr
      have HVS6 := Lib.hid hVS
      have HT6 := Lib.hid hT6
      have HU6 := Lib.hid hU6
      have HB6 := Lib.hid hB6
      have HD2 := Lib.hid hD2
      have HLG2 := Lib.hid hLg2
      have HF2 := Lib.hid hF2
      have hL2s : F L2 → False := fun h => by have := (HFL.out _ h).2; omega
      have htk : (ps.take k).length = k := by rw [List.length_take]; omega
      have HTK : Hid (Sl elPlace w6 (fun b => (¬ F b ∧ b ≠ L) ∧ b < w2.heap.size) (.slice (some ⟨b, o, none⟩) k cv) (ps.take k)) := Sl.takeE HVS6.out k (by omega)
      have HTH := Lib.hid (there15_any hD2 hLg2 hT6 _ (ps.take k) _ HTK.out (by omega) (HST2.out.hp (by omega)))
      clear hKx hKr hVS hT6 hU6 hB6 hD2 hLg2 hF2 hK6 x3 x4 htk HOPN
      unfold ptrV at HTH ⊢
      go_wp2_with fail
      refine HTH.out.mono ?_
      rintro e w7 ⟨v7, rfl, hb7, rfl⟩
      have hkx7 := HKX.out.belowS hb7
      have x3 := hkx7.at 3 _ rfl
      have x4 := hkx7.at 4 _ rfl
      have HB7 := Lib.hid hb7
      have HRD := logRead_any (HD2.out.below hb7) (HLG2.out.below hb7) (HT6.out.below hb7) x.seg x.at_ (by omega) (by omega)
      rw [HAT3.out] at HRD
      unfold ptrV at HRD
      have HRD := Lib.hid HRD
      clear hb7 hkx7 HTH
      go_wp2_with fail
      refine HRD.out.mono ?_
      rintro e w8 ⟨v8, rfl, hb8, rfl⟩
      have h69 : Below w6.heap.size w6 (w8.alloc (.cells #[.int .i64 0, .slice none 0 0, .string ⟨#[]⟩] 26)) := below_alloc (below_step HB7.out hb8) _
      have hkr9 := HKR.out.belowS h69
      have r0 := hkr9.at 0 _ rfl
      have r1 := hkr9.at 1 _ rfl
      have r2 := hkr9.at 2 _ rfl
      have HB9 := Lib.hid h69
      clear hb8 hkr9 h69 HB7 HRD x3 x4
      go_wp2_with fail
      generalize (w8.alloc (.cells #[.int .i64 0, .slice none 0 0, .string ⟨#[]⟩] 26)) = w9 at HB9 r0 r1 r2 ⊢
      have hsz9 := HB9.out.size
      have hap := logAppend_any (HD2.out.below HB9.out) (HLG2.out.below HB9.out) (fun h => (HF2.out _ h).2.1 rfl) (fun b h => Nat.lt_of_lt_of_le (HF2.out b h).2.2 hsz9) (HT6.out.below HB9.out) (fun h => by
        rcases (HF2.out _ h).1 with h | h
        · exact HGF.out h
        · have := HT.out.lt; omega) ⟨kind, nums, text⟩ _ ok (HU6.out.below HB9.out Nat.one_pos) htl HNU.out (by show x.at_ ≤ _; omega) (by have := HFA.out.steps; rw [hsteps2]; omega) (by have h1 := HST2.out.segs.len; have h2 := HFA.out.n_le; rw [segBytes_len] at h1; omega)
      unfold ptrV at hap
      refine hap.mono ?_
      clear hap r0 r1 r2
      rintro e w10 ⟨f, hf, rfl, hD10, hL10, hK10⟩
      obtain ⟨n', sg, a, s3, g3, hla, hst3, hn1, hn2, hsg, hcase, _, _⟩ := HST2.out.append HOKR.out f ((HD2.out.below HB9.out).ids hf) (by omega) (by have := HFA.out.n_le; omega) HFA.out.pos (by have := HFA.out.steps; rw [hsteps2]; omega)
      rw [hla] at hD10 hL10 ⊢
      obtain ⟨F3, hD10, hF3⟩ : ∃ F3 : Nat → Prop, DiskIn F3 w10 D s3 ∧ True := ⟨_, hD10, trivial⟩
      have hk9 := HKX.out.belowS HB9.out
      have hr9 := HKR.out.belowS HB9.out
      have hNx : ¬ (F2 w4.heap.size ∨ w4.heap.size = L2) := fun h => h.elim (fun h => by
        rcases (HF2.out _ h).1 with h | h
        · have := (HFL.out _ h).2; omega
        · omega) fun h => by omega
      have hNr : ¬ (F2 w.heap.size ∨ w.heap.size = L2) := fun h => h.elim (fun h => by
        rcases (HF2.out _ h).1 with h | h
        · have := (HFL.out _ h).1; omega
        · omega) fun h => by omega
      have hkx := hK10.blk hk9 hNx
      have hkr := hK10.blk hr9 hNr
      have x3 := hkx.at 3 _ rfl
      have x4 := hkx.at 4 _ rfl
      have r0 := hkr.at 0 _ rfl
      have r1 := hkr.at 1 _ rfl
      have r2 := hkr.at 2 _ rfl
      have hTK10 := Sl.kept (HTK.out.below HB9.out (by decide)) hK10 (fun b' hb h => h.elim (fun h => by
        rcases (HF2.out _ h).1 with h | h
        · exact hb.1.1 h
        · omega) fun h => by omega) (by decide)
      obtain ⟨css, hcl, hcR, hcf, hcc⟩ := place_cells hTK10
      have htk : (ps.take k).length = k := by rw [List.length_take]; omega
      rw [htk] at hcf
      have hU10 := Sl.kept (HU6.out.below HB9.out Nat.one_pos) hK10 (fun b' hb h => by
        have hb := HOK.out _ hb
        rcases h with h | h
        · rcases (HF2.out _ h).1 with h | h
          · have := (HFL.out _ h).1; omega
          · omega
        · omega) Nat.one_pos
      have hbb : b < w10.heap.size := by
        obtain ⟨A', c', hv', _, _, h3⟩ := HVS.out
        obtain ⟨b', o', hA', hob, _⟩ := h3 (by omega)
        injection hv' with e1 _ _
        rw [hA'] at e1
        injection e1 with e1
        injection e1 with e1 _
        subst e1
        have := hob.2
        have := hK10.size
        omega
      have HD10 := Lib.hid hD10
      have HL10 := Lib.hid hL10
      have HK10 := Lib.hid hK10
      have HST3 := Lib.hid hst3
      have hee : ((0 : Int) == 0) = true := rfl
      have hsg' := hsg
      clear hsg hsg' hTK10
      have HU10 := Lib.hid hU10
      clear hU10 hD10 hL10 hst3 hla hk9 hr9 hkx hkr hNx hNr hK10 hF3
      have hkk : (k : Int) ≤ (cv : Int) := by omega
      simp only at hcase
      go_wp2_with fail
      refine reg_start (fun w' => w'.cell? ⟨w4.heap.size, 3, none⟩ = some (.int .u64 x.seg) ∧ w'.cell? ⟨w4.heap.size, 4, none⟩ = some (.int .u64 x.at_) ∧ w'.cell? ⟨w.heap.size, 0, none⟩ = some (.int .i64 kind) ∧ w'.cell? ⟨w.heap.size, 1, none⟩ = some (.slice Au nums.length cu) ∧ w'.cell? ⟨w.heap.size, 2, none⟩ = some (.string ⟨text.toArray⟩)) (by kernel_rfl) ?_ (fun hHeld => ?_)
      · first | exact ⟨x3, x4, r0, r1, r2⟩ | (dsimp only; go_keep)
      refine reg_take (v := ?v1) 0 rfl (by kernel_rfl) (by kernel_rfl) (by kernel_rfl) (by rfl) ?hy1 (by assumption) ?_
      case hy1 => (intro w hSw; (try dsimp only at hSw); go_simp; try with_reducible rfl)
      try simp only [Act.put, List.setIfInBounds_toArray, List.set_cons_zero, List.set_cons_succ]
      refine reg_take (v := ?v2) 1 rfl (by kernel_rfl) (by kernel_rfl) (by kernel_rfl) (by rfl) ?hy2 (by assumption) ?_
      case hy2 => (intro w hSw; (try dsimp only at hSw); go_simp; try with_reducible rfl)
      try simp only [Act.put, List.setIfInBounds_toArray, List.set_cons_zero, List.set_cons_succ]
      refine reg_take (v := ?v3) 2 rfl (by kernel_rfl) (by kernel_rfl) (by kernel_rfl) (by rfl) ?hy3 (by assumption) ?_
      case hy3 => (intro w hSw; (try dsimp only at hSw); go_simp; try with_reducible rfl)
      try simp only [Act.put, List.setIfInBounds_toArray, List.set_cons_zero, List.set_cons_succ]
      refine reg_take (v := ?v4) 3 rfl (by kernel_rfl) (by kernel_rfl) (by kernel_rfl) (by rfl) ?hy4 (by assumption) ?_
      case hy4 => (intro w hSw; (try dsimp only at hSw); go_simp; try with_reducible rfl)
      try simp only [Act.put, List.setIfInBounds_toArray, List.set_cons_zero, List.set_cons_succ]
      refine reg_take (v := ?v5) 4 rfl (by kernel_rfl) (by kernel_rfl) (by kernel_rfl) (by rfl) ?hy5 (by assumption) ?_
      case hy5 => (intro w hSw; (try dsimp only at hSw); go_simp; try with_reducible rfl)
      try simp only [Act.put, List.setIfInBounds_toArray, List.set_cons_zero, List.set_cons_succ]
      refine reg_take (v := ?v6) 5 rfl (by kernel_rfl) (by kernel_rfl) (by kernel_rfl) (by rfl) ?hy6 (by assumption) ?_
      case hy6 => (intro w hSw; (try dsimp only at hSw); go_simp; try with_reducible rfl)
      try simp only [Act.put, List.setIfInBounds_toArray, List.set_cons_zero, List.set_cons_succ]
      refine reg_take (v := ?v7) 6 rfl (by kernel_rfl) (by kernel_rfl) (by kernel_rfl) (by rfl) ?hy7 (by assumption) ?_
      case hy7 => (intro w hSw; (try dsimp only at hSw); go_simp; try with_reducible rfl)
      try simp only [Act.put, List.setIfInBounds_toArray, List.set_cons_zero, List.set_cons_succ]
      refine reg_take (v := ?v8) 7 rfl (by kernel_rfl) (by kernel_rfl) (by kernel_rfl) (by rfl) ?hy8 (by assumption) ?_
      case hy8 => (intro w hSw; (try dsimp only at hSw); go_simp; try with_reducible rfl)
      try simp only [Act.put, List.setIfInBounds_toArray, List.set_cons_zero, List.set_cons_succ]
      refine reg_take (v := ?v9) 8 rfl (by kernel_rfl) (by kernel_rfl) (by kernel_rfl) (by rfl) ?hy9 (by assumption) ?_
      case hy9 => (intro w hSw; (try dsimp only at hSw); go_simp; try with_reducible rfl)
      try simp only [Act.put, List.setIfInBounds_toArray, List.set_cons_zero, List.set_cons_succ]
      refine reg_take (v := ?v10) 9 rfl (by kernel_rfl) (by kernel_rfl) (by kernel_rfl) (by rfl) ?hy10 (by assumption) ?_
      case hy10 => (intro w hSw; (try dsimp only at hSw); go_simp; try with_reducible rfl)
      try simp only [Act.put, List.setIfInBounds_toArray, List.set_cons_zero, List.set_cons_succ]
      refine reg_take (v := ?v11) 10 rfl (by kernel_rfl) (by kernel_rfl) (by kernel_rfl) (by rfl) ?hy11 (by assumption) ?_
      case hy11 => (intro w hSw; (try dsimp only at hSw); go_simp; try with_reducible rfl)
      try simp only [Act.put, List.setIfInBounds_toArray, List.set_cons_zero, List.set_cons_succ]
      refine reg_take (v := ?v12) 11 rfl (by kernel_rfl) (by kernel_rfl) (by kernel_rfl) (by rfl) ?hy12 (by assumption) ?_
      case hy12 => (intro w hSw; (try dsimp only at hSw); go_simp; try with_reducible rfl)
      try simp only [Act.put, List.setIfInBounds_toArray, List.set_cons_zero, List.set_cons_succ]
      refine reg_one 12 rfl (by kernel_rfl) (fun K hK => ?_)
      go_simp
      have hbd : Below w10.heap.size w10 w10.drew := below_of_drew (Below.refl _ _)
      have hbx : Below w10.heap.size w10 (w10.drew.alloc (.cells #[.int .i64 kind, .slice Au nums.length cu, .string ⟨text.toArray⟩, .int .u64 sg, .int .u64 a] 37)) := below_alloc hbd _
      refine hK.out _ _ ?_ (fun hHeld => ?_)
      · first | exact ⟨cell_below hbx x3, cell_below hbx x4, cell_below hbx r0, cell_below hbx r1, cell_below hbx r2⟩ | (dsimp only; go_keep)
      clear hK K
      try simp only [Act.put, List.setIfInBounds_toArray, List.set_cons_zero, List.set_cons_succ]
      refine reg_one 13 rfl (by kernel_rfl) (fun K hK => ?_)
      rw [if_pos (by rfl)]
      refine wp_app_grow (W := w10.drew) (.tmp 126) (.tmp 131) 30 37 (.agg #[.int .i64 0, .slice none 0 0, .string ⟨#[]⟩, .int .u64 0, .int .u64 0]) 5 64 rfl Tryd.underlying30 infoPlace rfl (by decide) b o k css.flatten [.int .i64 kind, .slice Au nums.length cu, .string ⟨text.toArray⟩, .int .u64 sg, .int .u64 a] rfl rfl hcf rfl (fun j u hu => cell_below hbd (hcc j u hu)) hbb (by unfold maxLen; omega) (by omega) ?_
      intro v11 w11 hown11 hg11
      have hb11 : Below w10.heap.size w10 w11 := below_of_drew ⟨hg11.os, hg11.tape, hg11.output, hg11.size, fun i hi => hg11.block i hi (by simp)⟩
      have hbF : ∀ b', b' < w.heap.size → (¬ F b' ∧ b' ≠ L) ∧ b' < w2.heap.size := fun b' hb' => by
        have := HFA.out.bL
        exact ⟨⟨fun h => by have := (HFL.out _ h).1; omega, by omega⟩, by omega⟩
      have hsl11 := grown_places (W := w10.drew) (ok := fun b => (¬ F b ∧ b ≠ L) ∧ b < w2.heap.size) (ps := ps.take k) (p := ⟨⟨kind, nums, text⟩, sg, a⟩) hcl (fun j h h2 => elPlace.keep (hcR j h h2) fun _ _ _ => rfl) ⟨_, rfl, (Sl.heap (w' := w10.drew) HU10.out rfl Nat.one_pos).weak (fun b' hb' _ => hbF b' (HOK.out _ hb')) Nat.one_pos⟩ (by rw [htk]; exact hown11) hg11
      have hT10 := ((HT6.out.below HB9.out).kept HK10.out (fun h => h.elim (fun h => by
        rcases (HF2.out _ h).1 with h | h
        · exact HGF.out h
        · have := HT.out.lt; omega) fun h => by have := HT.out.lt; omega)).below hb11
      have hTH2 := there15_any (HD10.out.below hb11) (HL10.out.below hb11) hT10 v11 (ps.take k ++ [⟨⟨kind, nums, text⟩, sg, a⟩]) _ hsl11 (by rw [List.length_append, htk]; simp; omega) (HST3.out.hp (by omega))
      unfold ptrV at hTH2
      refine hK.out _ _ ?_ (fun hHeld => ?_)
      · first | exact ⟨cell_below hb11 x3, cell_below hb11 x4, cell_below hb11 r0, cell_below hb11 r1, cell_below hb11 r2⟩ | (dsimp only; go_keep)
      clear hK K
      try simp only [Act.put, List.setIfInBounds_toArray, List.set_cons_zero, List.set_cons_succ]
      refine reg_one 14 rfl (by kernel_rfl) (fun K hK => ?_)
      go_simp
      refine hTH2.mono ?_
      rintro e w12 ⟨v12, rfl, hb12, rfl⟩
      have hb12 := below_step hb11 hb12
      have HBT : Hid (Below w.heap.size w w10) := (below_step HB6.out HB9.out).trans (HK10.out.below (by omega) fun b' hb' h => h.elim (fun h => by
        rcases (HF2.out _ h).1 with h | h
        · have := (HFL.out _ h).1; omega
        · omega) fun h => by omega)
      refine hK.out _ _ ?_ (fun hHeld => ?_)
      · first | exact ⟨cell_below hb12 x3, cell_below hb12 x4, cell_below hb12 r0, cell_below hb12 r1, cell_below hb12 r2⟩ | (dsimp only; go_keep)
      clear hK K
      try simp only [Act.put, List.setIfInBounds_toArray, List.set_cons_zero, List.set_cons_succ]
      refine reg_take (v := ?v13) 15 rfl (by kernel_rfl) (by kernel_rfl) (by kernel_rfl) (by rfl) ?hy13 (by assumption) ?_
      case hy13 => (intro w hSw; (try dsimp only at hSw); go_simp; try with_reducible rfl)
      try simp only [Act.put, List.setIfInBounds_toArray, List.set_cons_zero, List.set_cons_succ]
      refine reg_take (v := ?v14) 16 rfl (by kernel_rfl) (by kernel_rfl) (by kernel_rfl) (by rfl) ?hy14 (by assumption) ?_
      case hy14 => (intro w hSw; (try dsimp only at hSw); go_simp; try with_reducible rfl)
      try simp only [Act.put, List.setIfInBounds_toArray, List.set_cons_zero, List.set_cons_succ]
      refine reg_take (v := ?v15) 17 rfl (by kernel_rfl) (by kernel_rfl) (by kernel_rfl) (by rfl) ?hy15 (by assumption) ?_
      case hy15 => (intro w hSw; (try dsimp only at hSw); go_simp; try with_reducible rfl)
      try simp only [Act.put, List.setIfInBounds_toArray, List.set_cons_zero, List.set_cons_succ]
      refine reg_take (v := ?v16) 18 rfl (by kernel_rfl) (by kernel_rfl) (by kernel_rfl) (by rfl) ?hy16 (by assumption) ?_
      case hy16 => (intro w hSw; (try dsimp only at hSw); go_simp; try with_reducible rfl)
      try simp only [Act.put, List.setIfInBounds_toArray, List.set_cons_zero, List.set_cons_succ]
      refine reg_take (v := ?v17) 19 rfl (by kernel_rfl) (by kernel_rfl) (by kernel_rfl) (by rfl) ?hy17 (by assumption) ?_
      case hy17 => (intro w hSw; (try dsimp only at hSw); go_simp; try with_reducible rfl)
      try simp only [Act.put, List.setIfInBounds_toArray, List.set_cons_zero, List.set_cons_succ]
      rcases hcase with ⟨h1, h2⟩ | ⟨h1, h2⟩
      · have hc1 : ((sg : Int) == (x.seg : Int)) = true := by simp [h1]
        have hc2 : ((a : Int) == (x.at_ : Int)) = true := by simp [h2]
        clear h1 h2
        refine reg_take (v := ?v18) 20 rfl (by kernel_rfl) (by kernel_rfl) (by kernel_rfl) (by rfl) ?hy18 (by assumption) ?_
        case hy18 => (intro w hSw; (try dsimp only at hSw); go_simp; try with_reducible rfl)
        try simp only [Act.put, List.setIfInBounds_toArray, List.set_cons_zero, List.set_cons_succ]
        refine reg_take (v := ?v19) 21 rfl (by kernel_rfl) (by kernel_rfl) (by kernel_rfl) (by rfl) ?hy19 (by assumption) ?_
        case hy19 => (intro w hSw; (try dsimp only at hSw); go_simp; try with_reducible rfl)
        try simp only [Act.put, List.setIfInBounds_toArray, List.set_cons_zero, List.set_cons_succ]
        refine reg_take (v := ?v20) 22 rfl (by kernel_rfl) (by kernel_rfl) (by kernel_rfl) (by rfl) ?hy20 (by assumption) ?_
        case hy20 => (intro w hSw; (try dsimp only at hSw); go_simp; try with_reducible rfl)
        try simp only [Act.put, List.setIfInBounds_toArray, List.set_cons_zero, List.set_cons_succ]
        refine reg_take (v := ?v21) 23 rfl (by kernel_rfl) (by kernel_rfl) (by kernel_rfl) (by rfl) ?hy21 (by assumption) ?_
        case hy21 => (intro w hSw; (try dsimp only at hSw); go_simp; try with_reducible rfl)
        try simp only [Act.put, List.setIfInBounds_toArray, List.set_cons_zero, List.set_cons_succ]
        refine reg_take (v := ?v22) 24 rfl (by kernel_rfl) (by kernel_rfl) (by kernel_rfl) (by rfl) ?hy22 (by assumption) ?_
        case hy22 => (intro w hSw; (try dsimp only at hSw); go_simp; try with_reducible rfl)
        try simp only [Act.put, List.setIfInBounds_toArray, List.set_cons_zero, List.set_cons_succ]
        refine reg_take (v := ?v23) 25 rfl (by kernel_rfl) (by kernel_rfl) (by kernel_rfl) (by rfl) ?hy23 (by assumption) ?_
        case hy23 => (intro w hSw; (try dsimp only at hSw); go_simp; try with_reducible rfl)
        try simp only [Act.put, List.setIfInBounds_toArray, List.set_cons_zero, List.set_cons_succ]
        refine reg_take (v := ?v24) 26 rfl (by kernel_rfl) (by kernel_rfl) (by kernel_rfl) (by rfl) ?hy24 (by assumption) ?_
        case hy24 => (intro w hSw; (try dsimp only at hSw); go_simp; try with_reducible rfl)
        try simp only [Act.put, List.setIfInBounds_toArray, List.set_cons_zero, List.set_cons_succ]
        refine reg_take (v := ?v25) 27 rfl (by kernel_rfl) (by kernel_rfl) (by kernel_rfl) (by rfl) ?hy25 (by assumption) ?_
        case hy25 => (intro w hSw; (try dsimp only at hSw); go_simp; try with_reducible rfl)
        try simp only [Act.put, List.setIfInBounds_toArray, List.set_cons_zero, List.set_cons_succ]
        refine reg_skip 28 rfl (by kernel_rfl) (by kernel_rfl) (by kernel_rfl) (by rfl) (by assumption) ?_
        try simp only [Act.put, List.setIfInBounds_toArray, List.set_cons_zero, List.set_cons_succ]
        refine reg_skip 29 rfl (by kernel_rfl) (by kernel_rfl) (by kernel_rfl) (by rfl) (by assumption) ?_
        try simp only [Act.put, List.setIfInBounds_toArray, List.set_cons_zero, List.set_cons_succ]
        refine reg_skip 30 rfl (by kernel_rfl) (by kernel_rfl) (by kernel_rfl) (by rfl) (by assumption) ?_
        try simp only [Act.put, List.setIfInBounds_toArray, List.set_cons_zero, List.set_cons_succ]
        refine reg_skip 31 rfl (by kernel_rfl) (by kernel_rfl) (by kernel_rfl) (by rfl) (by assumption) ?_
        try simp only [Act.put, List.setIfInBounds_toArray, List.set_cons_zero, List.set_cons_succ]
        refine reg_skip 32 rfl (by kernel_rfl) (by kernel_rfl) (by kernel_rfl) (by rfl) (by assumption) ?_
        try simp only [Act.put, List.setIfInBounds_toArray, List.set_cons_zero, List.set_cons_succ]
        refine reg_skip 33 rfl (by kernel_rfl) (by kernel_rfl) (by kernel_rfl) (by rfl) (by assumption) ?_
        try simp only [Act.put, List.setIfInBounds_toArray, List.set_cons_zero, List.set_cons_succ]
        refine reg_skip 34 rfl (by kernel_rfl) (by kernel_rfl) (by kernel_rfl) (by rfl) (by assumption) ?_
        try simp only [Act.put, List.setIfInBounds_toArray, List.set_cons_zero, List.set_cons_succ]
        refine reg_skip 35 rfl (by kernel_rfl) (by kernel_rfl) (by kernel_rfl) (by rfl) (by assumption) ?_
        try simp only [Act.put, List.setIfInBounds_toArray, List.set_cons_zero, List.set_cons_succ]
        refine reg_skip 36 rfl (by kernel_rfl) (by kernel_rfl) (by kernel_rfl) (by rfl) (by assumption) ?_
        try simp only [Act.put, List.setIfInBounds_toArray, List.set_cons_zero, List.set_cons_succ]
        refine reg_take (v := ?v26) 37 rfl (by kernel_rfl) (by kernel_rfl) (by kernel_rfl) (by rfl) ?hy26 (by assumption) ?_
        case hy26 => (intro w hSw; (try dsimp only at hSw); go_simp; try with_reducible rfl)
        try simp only [Act.put, List.setIfInBounds_toArray, List.set_cons_zero, List.set_cons_succ]
        refine reg_take (v := ?v27) 38 rfl (by kernel_rfl) (by kernel_rfl) (by kernel_rfl) (by rfl) ?hy27 (by assumption) ?_
        case hy27 => (intro w hSw; (try dsimp only at hSw); go_simp; try with_reducible rfl)
        try simp only [Act.put, List.setIfInBounds_toArray, List.set_cons_zero, List.set_cons_succ]
        refine reg_take (v := ?v28) 39 rfl (by kernel_rfl) (by kernel_rfl) (by kernel_rfl) (by rfl) ?hy28 (by assumption) ?_
        case hy28 => (intro w hSw; (try dsimp only at hSw); go_simp; try with_reducible rfl)
        try simp only [Act.put, List.setIfInBounds_toArray, List.set_cons_zero, List.set_cons_succ]
        refine reg_done (by kernel_rfl) ?_
        go_wp2_with fail
        go_ret
        exact ⟨_, rfl, below_step HBT.out hb12, rfl⟩
      · have hc1 : ((sg : Int) == (x.seg : Int)) = false := by simp; omega
        have hc2 : ((sg : Int) == (x.seg : Int) + 1) = true := by simp; omega
        have hc3 : ((a : Int) == 0) = true := by simp; omega
        have hw1 : IntKind.u64.wrap ((x.seg : Int) + 1) = (x.seg : Int) + 1 := by rw [IntKind.wrap_u64]; omega
        clear h1 h2
        refine reg_take (v := ?v29) 20 rfl (by kernel_rfl) (by kernel_rfl) (by kernel_rfl) (by rfl) ?hy29 (by assumption) ?_
        case hy29 => (intro w hSw; (try dsimp only at hSw); go_simp; try with_reducible rfl)
        try simp only [Act.put, List.setIfInBounds_toArray, List.set_cons_zero, List.set_cons_succ]
        refine reg_take (v := ?v30) 21 rfl (by kernel_rfl) (by kernel_rfl) (by kernel_rfl) (by rfl) ?hy30 (by assumption) ?_
        case hy30 => (intro w hSw; (try dsimp only at hSw); go_simp; try with_reducible rfl)
        try simp only [Act.put, List.setIfInBounds_toArray, List.set_cons_zero, List.set_cons_succ]
        refine reg_skip 22 rfl (by kernel_rfl) (by kernel_rfl) (by kernel_rfl) (by rfl) (by assumption) ?_
        try simp only [Act.put, List.setIfInBounds_toArray, List.set_cons_zero, List.set_cons_succ]
        refine reg_skip 23 rfl (by kernel_rfl) (by kernel_rfl) (by kernel_rfl) (by rfl) (by assumption) ?_
        try simp only [Act.put, List.setIfInBounds_toArray, List.set_cons_zero, List.set_cons_succ]
        refine reg_skip 24 rfl (by kernel_rfl) (by kernel_rfl) (by kernel_rfl) (by rfl) (by assumption) ?_
        try simp only [Act.put, List.setIfInBounds_toArray, List.set_cons_zero, List.set_cons_succ]
        refine reg_skip 25 rfl (by kernel_rfl) (by kernel_rfl) (by kernel_rfl) (by rfl) (by assumption) ?_
        try simp only [Act.put, List.setIfInBounds_toArray, List.set_cons_zero, List.set_cons_succ]
        refine reg_take (v := ?v31) 26 rfl (by kernel_rfl) (by kernel_rfl) (by kernel_rfl) (by rfl) ?hy31 (by assumption) ?_
        case hy31 => (intro w hSw; (try dsimp only at hSw); go_simp; try with_reducible rfl)
        try simp only [Act.put, List.setIfInBounds_toArray, List.set_cons_zero, List.set_cons_succ]
        refine reg_take (v := ?v32) 27 rfl (by kernel_rfl) (by kernel_rfl) (by kernel_rfl) (by rfl) ?hy32 (by assumption) ?_
        case hy32 => (intro w hSw; (try dsimp only at hSw); go_simp; try with_reducible rfl)
        try simp only [Act.put, List.setIfInBounds_toArray, List.set_cons_zero, List.set_cons_succ]
        refine reg_take (v := ?v33) 28 rfl (by kernel_rfl) (by kernel_rfl) (by kernel_rfl) (by rfl) ?hy33 (by assumption) ?_
        case hy33 => (intro w hSw; (try dsimp only at hSw); go_simp; try with_reducible rfl)
        try simp only [Act.put, List.setIfInBounds_toArray, List.set_cons_zero, List.set_cons_succ]
        refine reg_take (v := ?v34) 29 rfl (by kernel_rfl) (by kernel_rfl) (by kernel_rfl) (by rfl) ?hy34 (by assumption) ?_
        case hy34 => (intro w hSw; (try dsimp only at hSw); go_simp; try with_reducible rfl)
        try simp only [Act.put, List.setIfInBounds_toArray, List.set_cons_zero, List.set_cons_succ]
        refine reg_take (v := ?v35) 30 rfl (by kernel_rfl) (by kernel_rfl) (by kernel_rfl) (by rfl) ?hy35 (by assumption) ?_
        case hy35 => (intro w hSw; (try dsimp only at hSw); go_simp; try with_reducible rfl)
        try simp only [Act.put, List.setIfInBounds_toArray, List.set_cons_zero, List.set_cons_succ]
        refine reg_take (v := ?v36) 31 rfl (by kernel_rfl) (by kernel_rfl) (by kernel_rfl) (by rfl) ?hy36 (by assumption) ?_
        case hy36 => (intro w hSw; (try dsimp only at hSw); go_simp; try with_reducible rfl)
        try simp only [Act.put, List.setIfInBounds_toArray, List.set_cons_zero, List.set_cons_succ]
        refine reg_take (v := ?v37) 32 rfl (by kernel_rfl) (by kernel_rfl) (by kernel_rfl) (by rfl) ?hy37 (by assumption) ?_
        case hy37 => (intro w hSw; (try dsimp only at hSw); go_simp; try with_reducible rfl)
        try simp only [Act.put, List.setIfInBounds_toArray, List.set_cons_zero, List.set_cons_succ]
        refine reg_take (v := ?v38) 33 rfl (by kernel_rfl) (by kernel_rfl) (by kernel_rfl) (by rfl) ?hy38 (by assumption) ?_
        case hy38 => (intro w hSw; (try dsimp only at hSw); go_simp; try with_reducible rfl)
        try simp only [Act.put, List.setIfInBounds_toArray, List.set_cons_zero, List.set_cons_succ]
        refine reg_take (v := ?v39) 34 rfl (by kernel_rfl) (by kernel_rfl) (by kernel_rfl) (by rfl) ?hy39 (by assumption) ?_
        case hy39 => (intro w hSw; (try dsimp only at hSw); go_simp; try with_reducible rfl)
        try simp only [Act.put, List.setIfInBounds_toArray, List.set_cons_zero, List.set_cons_succ]
        refine reg_take (v := ?v40) 35 rfl (by kernel_rfl) (by kernel_rfl) (by kernel_rfl) (by rfl) ?hy40 (by assumption) ?_
        case hy40 => (intro w hSw; (try dsimp only at hSw); go_simp; try with_reducible rfl)
        try simp only [Act.put, List.setIfInBounds_toArray, List.set_cons_zero, List.set_cons_succ]
        refine reg_take (v := ?v41) 36 rfl (by kernel_rfl) (by kernel_rfl) (by kernel_rfl) (by rfl) ?hy41 (by assumption) ?_
        case hy41 => (intro w hSw; (try dsimp only at hSw); go_simp; try with_reducible rfl)
        try simp only [Act.put, List.setIfInBounds_toArray, List.set_cons_zero, List.set_cons_succ]
        refine reg_take (v := ?v42) 37 rfl (by kernel_rfl) (by kernel_rfl) (by kernel_rfl) (by rfl) ?hy42 (by assumption) ?_
        case hy42 => (intro w hSw; (try dsimp only at hSw); go_simp; try with_reducible rfl)
        try simp only [Act.put, List.setIfInBounds_toArray, List.set_cons_zero, List.set_cons_succ]
        refine reg_take (v := ?v43) 38 rfl (by kernel_rfl) (by kernel_rfl) (by kernel_rfl) (by rfl) ?hy43 (by assumption) ?_
        case hy43 => (intro w hSw; (try dsimp only at hSw); go_simp; try with_reducible rfl)
        try simp only [Act.put, List.setIfInBounds_toArray, List.set_cons_zero, List.set_cons_succ]
        refine reg_take (v := ?v44) 39 rfl (by kernel_rfl) (by kernel_rfl) (by kernel_rfl) (by rfl) ?hy44 (by assumption) ?_
        case hy44 => (intro w hSw; (try dsimp only at hSw); go_simp; try with_reducible rfl)
        try simp only [Act.put, List.setIfInBounds_toArray, List.set_cons_zero, List.set_cons_succ]
        refine reg_done (by kernel_rfl) ?_
        go_wp2_with fail
        go_ret
        exact ⟨_, rfl, below_step HBT.out hb12, rfl⟩

end Go.Proofs.YtocmnhjgknaocaaDoor
