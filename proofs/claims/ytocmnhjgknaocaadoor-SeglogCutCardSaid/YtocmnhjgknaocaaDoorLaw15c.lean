import Derived.Test.YtocmnhjgknaocaaDoorLaw15b
set_option linter.unusedVariables false
set_option linter.unusedSimpArgs false
set_option maxRecDepth 100000
namespace Go.Proofs.YtocmnhjgknaocaaDoor
open Go.RowKit Tb

theorem can_steps (s : PDisk) (e : Int) : (s.can e).2.steps = s.steps := by
  unfold PDisk.can
  split
  · rfl
  · split
    · rfl
    · split
      · rfl
      · split <;> rfl
theorem create_steps (s : PDisk) (n : List UInt8) (f : Nat) : (s.create n f).2.steps.length ≤ s.steps.length + 1 := by
  unfold PDisk.create
  split
  · show ((s.can (s.createErr n)).2.steps ++ [_]).length ≤ _
    rw [can_steps]
    simp
  · rw [can_steps]
    omega
theorem FullAt.first {w w1 w2 : World} {D L : Nat} {seg : Nat} {size : Int} {f : Nat} {F : Nat → Prop} (hs : seg ≤ 1000) (hm : madeOk seg size = true) (hF : ∀ b, F b → w.heap.size ≤ b) (hb : Below w.heap.size w w1)
    (hD : DiskIn (fun b => (F b ∨ w1.heap.size ≤ b) ∧ b ≠ L) w2 D ((PDisk.new 131072).create (segName seg) f).2) (hL : LogAt w2 L D ⟨seg, 0, size, seg, true⟩) (hL1 : w1.heap.size ≤ L) :
    FullAt w.heap.size w2 D L (.slice none 0 0) seg size (fun b => ((F b ∨ w1.heap.size ≤ b) ∧ b ≠ L) ∧ b < w2.heap.size) ((PDisk.new 131072).create (segName seg) f).2 ⟨seg, 0, size, seg, true⟩ 1 [] where
  disk := hD.bound
  log := hL
  fL := fun h => h.1.2 rfl
  fB := fun b h => ⟨by
    have := hb.size
    rcases h.1.1 with h' | h'
    · exact hF b h'
    · omega, h.2⟩
  bL := Nat.le_trans hb.size hL1
  row := OwnE.nil _ _ _
  own := fun b h => by cases h
  st := {
    segs := (Segs.first seg f (by omega)).2
    gseg := rfl
    gmost := rfl
    gat := rfl
    ok := fun p hp => by cases hp
    laid := fun i hi => absurd hi (by simp)
    tot := by simp [segBytes, recsIn, flat]
    small := hs
    many := by decide
    long := by
      have : ((PDisk.new 131072).create (segName seg) f).2.steps.length ≤ 1 := create_steps _ _ _
      omega }
  pos := Nat.one_pos
  n_le := by simp
  steps := create_steps _ _ _
  at_ := Nat.zero_le _
  last := fun p h => by cases h

set_option maxHeartbeats 3200000 in
theorem full15_any (w : World) (ht : Tab w) (seg : Nat) (h64 : seg < 18446744073709551616) (size : Int) (l : Value) (rs : List Rec) (ok : Nat → Prop) (hv : Sl elRec w ok l rs) (hok : ∀ b, ok b → b < w.heap.size) (hr : ∀ r ∈ rs, ∀ n ∈ r.n, n < 2 ^ 64) :
    Calls Tryd.prog 10 #[.int .u64 seg, .int .i64 size, l] w (FullPost w seg size) := by
  obtain ⟨A, c, hve, hc1, hc2, hx⟩ := hv
  have HV : Hid (Sl elRec w ok (.slice A rs.length c) rs) := ⟨A, c, rfl, hc1, hc2, hx⟩
  subst hve
  have HR := Lib.hid hr
  have HOKB := Lib.hid hok
  have HT := Lib.hid ht
  have HN := Lib.hid (new_any 131072 w)
  clear ht hr hx hok
  by_cases h50 : 50 < rs.length
  · have hd1 : decide ((50 : Int) < (rs.length : Int)) = true := by simp; omega
    go_enter Tryd.func10, Tryd.ntmps10
    go_wp2_with fail
    refine HN.out.mono ?_
    rintro e w1 ⟨v1, rfl, hb1, hp1⟩
    unfold NewPost at hp1
    rw [if_neg (by decide)] at hp1
    obtain ⟨D, mS, rfl, hD1⟩ := hp1
    unfold ptrV
    go_wp2_with fail
    refine bodyPost_ret (results_vals _ _ rfl (by simp) (.tmp rfl (.tmp rfl (.tmp rfl (.tmp rfl .nil))))) rfl ?_
    exact .inl ⟨rfl, hb1⟩
  have hd1 : decide ((50 : Int) < (rs.length : Int)) = false := by simp; omega
  by_cases hs : 1000 < seg
  · have hd2 : decide ((1000 : Int) < (seg : Int)) = true := by simp; omega
    go_enter Tryd.func10, Tryd.ntmps10
    go_wp2_with fail
    refine HN.out.mono ?_
    rintro e w1 ⟨v1, rfl, hb1, hp1⟩
    unfold NewPost at hp1
    rw [if_neg (by decide)] at hp1
    obtain ⟨D, mS, rfl, hD1⟩ := hp1
    unfold ptrV
    go_wp2_with fail
    refine bodyPost_ret (results_vals _ _ rfl (by simp) (.tmp rfl (.tmp rfl (.tmp rfl (.tmp rfl .nil))))) rfl ?_
    exact .inl ⟨rfl, hb1⟩
  have hd2 : decide ((1000 : Int) < (seg : Int)) = false := by simp; omega
  go_enter Tryd.func10, Tryd.ntmps10
  go_wp2_with fail
  refine HN.out.mono ?_
  rintro e w1 ⟨v1, rfl, hb1, hp1⟩
  unfold NewPost at hp1
  rw [if_neg (by decide)] at hp1
  obtain ⟨D, mS, rfl, hD1⟩ := hp1
  have hD1 : DiskIn (fun b => w.heap.size ≤ b ∧ b < w1.heap.size) w1 D (PDisk.new 131072) := DiskIn.bound ⟨_, _, _, _, hD1⟩
  have HBG := Lib.hid (begin_any hD1 (fun b h => h.2) (HT.out.below hb1) seg h64 size (by decide) (by decide))
  have HB1 := Lib.hid hb1
  clear hD1 hb1 HN
  unfold ptrV at *
  go_wp2_with fail
  refine HBG.out.mono ?_
  rintro e w2 ⟨f, hf, hq, hK⟩
  have hb2 : Below w.heap.size w w2 := HB1.out.trans (hK.below HB1.out.size fun k hk h => by omega)
  unfold LogOr logBegin at hq
  by_cases hm : ¬ madeOk seg size = true
  · rw [if_neg hm] at hq
    obtain ⟨rfl, _⟩ := hq
    go_wp2_with fail
    refine bodyPost_ret (results_vals _ _ rfl (by simp) (.tmp rfl (.tmp rfl (.tmp rfl (.tmp rfl .nil))))) rfl ?_
    exact .inl ⟨rfl, hb2⟩
  have hm := Decidable.not_not.1 hm
  rw [if_pos hm, if_pos (Segs.first seg f (by omega)).1] at hq
  obtain ⟨L, rfl, hL1, hLg, hDk⟩ := hq
  have HFA := Lib.hid (FullAt.first (by omega) hm (fun b h => h.1) HB1.out hDk hLg hL1)
  have HM := Lib.hid hm
  have HB2 := Lib.hid hb2
  clear hDk hLg hb2 hm hK HBG
  unfold ptrV
  go_wp2_with fail
  go_loopw [14, 50] (fun v i wr => ∃ (k : Nat) (F : Nat → Prop) (s : PDisk) (g : PLog) (n : Nat) (ps : List Place), k ≤ rs.length ∧ i = .int .i64 k ∧ ps.length = k ∧ FullAt w.heap.size wr D L v seg size F s g n ps ∧ Below w.heap.size w wr) (fun _ i _ => rs.length - (intOf i).toNat)
  case atStart => exact ⟨0, _, _, _, _, [], by omega, rfl, rfl, HFA.out, HB2.out⟩
  case round =>
    clear HFA HB2
    obtain ⟨k, F, s, g, n, ps, hk, rfl, hpl, hfa, hbel⟩ := hrel
    by_cases hlt : k < rs.length
    · obtain ⟨b, o, A2, c2, rfl, q0, q1, q2, hu⟩ := rec_at (HV.out.below hbel (by decide)) hlt
      have hrk := HR.out rs[k] (List.getElem_mem _)
      generalize rs[k] = r at q0 q1 q2 hu hrk
      obtain ⟨kind, nums, text⟩ := r
      simp only at q0 q1 q2 hu hrk
      have hnu := hrk
      have HU := Lib.hid hu
      have HFA := Lib.hid hfa
      have HBEL := Lib.hid hbel
      have HNU := Lib.hid hnu
      have hi1 : (k : Int) < (rs.length : Int) := by omega
      have hpk : ps.length < 50 := by omega
      clear hu hfa hbel hnu hrk
      go_wp2_with fail
      have HW1 : Hid (Below wr.heap.size wr (wr.alloc (.cells #[.int .i64 kind, .slice A2 nums.length c2, .string ⟨text.toArray⟩] 26))) := below_alloc (Below.refl _ _) _
      have HBP : Hid (Blk (wr.alloc (.cells #[.int .i64 kind, .slice A2 nums.length c2, .string ⟨text.toArray⟩] 26)) wr.heap.size [.int .i64 kind, .slice A2 nums.length c2, .string ⟨text.toArray⟩] 26) := Blk.new wr _ _
      refine (large05_any ⟨kind, nums, text⟩ _ ok _ (HU.out.below HW1.out Nat.one_pos)).mono ?_
      rintro e w3 ⟨v3, rfl, hb3, rfl⟩
      have hP3 := HBP.out.belowS hb3
      have p0 := hP3.at 0 _ rfl
      have p1 := hP3.at 1 _ rfl
      have p2 := hP3.at 2 _ rfl
      have HB3 := Lib.hid (below_step HW1.out hb3)
      have HP3 := Lib.hid hP3
      clear hb3 hP3 HW1 HBP
      by_cases hlg : recLarge ⟨kind, nums, text⟩ = true
      · rw [hlg]
        go_wp2_with fail
        refine bodyPost_ret (results_vals _ _ rfl (by simp) (.tmp rfl (.tmp rfl (.tmp rfl (.tmp rfl .nil))))) rfl ?_
        exact .inl ⟨rfl, below_step HBEL.out HB3.out⟩
      rw [Bool.not_eq_true] at hlg
      have htl : text.length ≤ 1000000000 := by unfold recLarge at hlg; simp at hlg; omega
      rw [hlg]
      go_wp2_with fail
      refine (right_any ⟨kind, nums, text⟩ _ ok _ (HU.out.below HB3.out Nat.one_pos) htl).mono ?_
      rintro e w4 ⟨v4, rfl, hb4, rfl⟩
      have hP4 := HP3.out.belowS hb4
      have t0 := hP4.at 0 _ rfl
      have t1 := hP4.at 1 _ rfl
      have t2 := hP4.at 2 _ rfl
      have HB4 := Lib.hid (below_step HB3.out hb4)
      have HP4 := Lib.hid hP4
      clear hb4 hP4 HP3 p0 p1 p2
      by_cases hrg : ¬ recRight ⟨kind, nums, text⟩ = true
      · rw [Bool.not_eq_true] at hrg
        rw [hrg]
        go_wp2_with fail
        refine bodyPost_ret (results_vals _ _ rfl (by simp) (.tmp rfl (.tmp rfl (.tmp rfl (.tmp rfl .nil))))) rfl ?_
        exact .inl ⟨rfl, below_step HBEL.out HB4.out⟩
      have hrg := Decidable.not_not.1 hrg
      have HOK : Hid (OkRec ⟨kind, nums, text⟩) := ⟨hrg, HNU.out⟩
      rw [hrg]
      go_wp2_with fail
      have hfa4 := HFA.out.below HB4.out
      have hg4 : ¬ F 1 := fun h => by
        have := (hfa4.fB _ h).1
        have := HT.out.lt
        omega
      have hap := logAppend_any hfa4.disk hfa4.log hfa4.fL (fun b h => (hfa4.fB b h).2) ((HT.out.below HBEL.out).below HB4.out) hg4 ⟨kind, nums, text⟩ _ ok (HU.out.below HB4.out Nat.one_pos) htl HNU.out (by have := hfa4.at_; omega) (by have := hfa4.steps; omega) (by have h1 := hfa4.st.segs.len; have h2 := hfa4.n_le; rw [segBytes_len] at h1; omega)
      unfold ptrV at hap
      refine hap.mono ?_
      clear hap
      rintro e w5 ⟨f, hf, rfl, hD5, hL5, hK5⟩
      have hput := hfa4.put hpk HOK.out hf rfl hD5 hL5 hK5
      generalize logAppend s g ⟨kind, nums, text⟩ f = q at hD5 hL5 hput
      obtain ⟨⟨sg, a, er⟩, s', g'⟩ := q
      simp only at hD5 hL5 hput
      obtain ⟨rfl, n', hst', hn1, hn2, hsteps', hat', hsg', hrow'⟩ := hput
      obtain ⟨css, hcl, hcR, hco⟩ := hrow'
      have hPF : ¬ (F wr.heap.size ∨ wr.heap.size = L) := by
        rintro (h | h)
        · have := (HFA.out.fB _ h).2; omega
        · have := HFA.out.log.1.lt; omega
      have hP5 := hK5.blk HP4.out hPF
      have s0 := hP5.at 0 _ rfl
      have s1 := hP5.at 1 _ rfl
      have s2 := hP5.at 2 _ rfl
      have hsz5 : w.heap.size ≤ w5.heap.size := by have := HBEL.out.size; have := HB4.out.size; have := hK5.size; omega
      have HFA4 := Lib.hid hfa4
      have HD5 := Lib.hid hD5
      have HL5 := Lib.hid hL5
      have HK5 := Lib.hid hK5
      have HST := Lib.hid hst'
      have HSG := Lib.hid hsg'
      clear hfa4 hD5 hL5 hK5 hst' hP5 t0 t1 t2 hsg'
      go_wp2_with (at_builtin; refine app_cells w.heap.size rfl (.tmp 70) (.tmp 75) 30 37 (.agg #[.int .i64 0, .slice none 0 0, .string ⟨#[]⟩, .int .u64 0, .int .u64 0]) 5 64 rfl Tryd.underlying30 infoPlace rfl (by decide) u14 ps.length css.flatten [.int .i64 kind, .slice A2 nums.length c2, .string ⟨text.toArray⟩, .int .u64 sg, .int .u64 a] rfl (by show Value.slice _ _ _ = Value.slice _ _ _; simp) (by simp [Value.oneCell']) rfl hco hsz5 (by unfold maxLen; omega) (by omega) ?_; intro v6 w6 hown6 hg6 hlie6 hsh6)
      go_roundw
      case rel =>
        have hLlt := HFA.out.log.1.lt
        have hs1 := HBEL.out.size
        have hs4 := HB4.out.size
        have hs5 := HK5.out.size
        have hbL := HFA.out.bL
        have hol := HFA4.out.row.lt
        have hon := HFA4.out.own
        have hfb := HFA4.out.fB
        have hrow6 : OwnE w6 w.heap.size (fun b => ¬ ((F b ∨ w4.heap.size ≤ b) ∧ b < w5.heap.size) ∧ b ≠ L) v6 (ps ++ [⟨⟨kind, nums, text⟩, sg, a⟩]) := by
          refine OwnE.snoc hcl hcR ?_ hown6 hg6 hlie6
          refine ⟨_, rfl, ((HU.out.below HB4.out Nat.one_pos).keep (fun b hb hlt => HK5.out.block b hlt ?_) Nat.one_pos).weak (fun b hb _ => ?_) Nat.one_pos⟩
          · have hbw := HOKB.out b hb
            rintro (h | h)
            · have := (hfb b h).1; omega
            · omega
          · have hbw := HOKB.out b hb
            refine ⟨fun e => ?_, fun h => ?_, by omega⟩
            · have := (hol b e.symm).1; omega
            · rcases h.1 with h | h
              · have := (hfb b h).1; omega
              · omega
        have hfar : ∀ b, ((F b ∨ w4.heap.size ≤ b) ∧ b < w5.heap.size) → u14.ownBlock ≠ some b := by
          intro b h e
          rcases h.1 with h' | h'
          · exact (hon b e).1 h'
          · have := (hol b e).2; omega
        refine ⟨k + 1, fun b => (F b ∨ w4.heap.size ≤ b) ∧ b < w5.heap.size, s', g', n', ps ++ [⟨⟨kind, nums, text⟩, sg, a⟩], by omega, by go_num, by simp [hpl], ?_, ?_⟩
        · exact {
            disk := HD5.out.bound.keepF (fun b hb hlt => hg6.block b hlt fun e => hfar b hb e.symm) fun b hb => hb
            log := HL5.out.keep (hg6.block L HL5.out.1.lt fun e => (hon L e.symm).2 rfl)
            fL := fun h => by
              rcases h.1 with h' | h'
              · exact HFA.out.fL h'
              · omega
            fB := fun b h => ⟨by
              rcases h.1 with h' | h'
              · exact (hfb b h').1
              · omega, by have := hg6.size; omega⟩
            bL := hbL
            row := hrow6
            own := fun b e => by
              rcases hlie6 with e2 | ⟨c6, e2, hc6⟩
              · rw [e2] at e
                exact ⟨fun h => hfar b h e, (hon b e).2⟩
              · rw [e2] at e
                injection e with e
                subst e
                exact ⟨fun h => by omega, by omega⟩
            st := by
              rw [List.length_append]
              exact HST.out
            pos := hn1
            n_le := by simp; omega
            steps := by simp; omega
            at_ := by simp; omega
            last := fun p hp => by
              rw [List.getLast?_concat] at hp
              injection hp with hp
              subst hp
              exact HSG.out }
        · have h5 : Below w.heap.size w w5 := (below_step HBEL.out HB4.out).trans (HK5.out.below (by omega) fun b hb h => by
            rcases h with h | h
            · have := (hfb b h).1; omega
            · omega)
          exact below_own h5 hsz5 hco hg6
      case measure => simp [intOf]; omega
    · obtain rfl : k = rs.length := by omega
      go_wp2_with fail
      refine bodyPost_ret (results_vals _ _ rfl (by simp) (.tmp rfl (.tmp rfl (.tmp rfl (.tmp rfl .nil))))) rfl ?_
      exact .inr ⟨D, L, _, F, s, g, n, ps, rfl, hfa, by omega, HM.out, hbel⟩

end Go.Proofs.YtocmnhjgknaocaaDoor
