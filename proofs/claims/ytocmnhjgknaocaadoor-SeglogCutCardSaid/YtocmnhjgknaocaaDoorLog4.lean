import Derived.Test.YtocmnhjgknaocaaDoorLog3
set_option linter.unusedVariables false
set_option linter.unusedSimpArgs false
set_option maxRecDepth 100000
namespace Go.Proofs.YtocmnhjgknaocaaDoor
open Go.RowKit Tb
open Go.ChangeMaps (setBlock)

theorem recsOf_len (e : Int) : ∀ (l : List Frm) (k : Nat), (recsOf e k l).2.1.length = (recsOf e k l).1.length
  | [], k => rfl
  | x :: l, k => by
    unfold recsOf
    cases recRead x with
    | error f => rfl
    | ok r => simp [recsOf_len e l]
theorem recAll_len (b : List UInt8) : (recAll b).2.1.length = (recAll b).1.length := recsOf_len _ _ _

/-! ### At -/
def recAtErr (e : Int) : Int := if e = 0 then 3 else e
def logRec (b : List UInt8) (at_ : Nat) : Except Int (Rec × Nat) :=
  if b.length < at_ then .error 3 else
  match (recAll (b.drop at_)).1, (recAll (b.drop at_)).2.1 with
  | r :: _, n :: _ => .ok (r, n)
  | _, _ => .error (recAtErr (recAll (b.drop at_)).2.2)
def logAt (s : PDisk) (seg at_ : Nat) : Except Int (Rec × Nat) :=
  if seg < 10000000000 then
    match s.read (segName seg) with
    | .error e => .error e
    | .ok b => logRec b at_
  else .error 1
def AtPost (base : Nat) (q : Except Int (Rec × Nat)) (r : Value) (w' : World) : Prop :=
  match q with
  | .error e => r = .tuple #[.agg #[.int .i64 0, .slice none 0 0, .string ⟨#[]⟩], .int .i64 0, .int .i64 e]
  | .ok (x, n) => ∃ u, r = .tuple #[.agg #[.int .i64 x.kind, u, .string ⟨x.text.toArray⟩], .int .i64 n, .int .i64 0] ∧ Sl elU64 w' (fun b => base ≤ b) u x.n
theorem below_set3 {B : Nat} {w W : World} (h : Below B w W) {g : Nat} (hg : B ≤ g) (u0 u1 u2 : Value) : Below B w (((W.setCell ⟨g, 0, none⟩ u0).setCell ⟨g, 1, none⟩ u1).setCell ⟨g, 2, none⟩ u2) :=
  below_set (below_set (below_set h hg _ _) hg _ _) hg _ _

/-- Of a slice of records: the first one's cells. -/
theorem rec_at0 {w : World} {ok : Nat → Prop} {v : Value} {rs : List Rec} {r : Rec} {l : List Rec} (h : Sl elRec w ok v rs) (hr : rs = r :: l) :
    ∃ b o c A c2, v = .slice (some ⟨b, o, none⟩) (l.length + 1) c ∧ l.length + 1 ≤ c ∧ c ≤ 9223372036854775807 ∧ w.cell? ⟨b, o, none⟩ = some (.int .i64 r.kind) ∧ w.cell? ⟨b, o + 1, none⟩ = some (.slice A r.n.length c2) ∧ w.cell? ⟨b, o + 2, none⟩ = some (.string ⟨r.text.toArray⟩) ∧
      Sl elU64 w ok (.slice A r.n.length c2) r.n ∧ ok b := by
  subst hr
  obtain ⟨A, c, rfl, h1, h2, h3⟩ := h
  obtain ⟨b, o, rfl, hob, hc⟩ := h3 (by simp)
  obtain ⟨cs, ⟨u, rfl, hu⟩, hcs⟩ := hc 0 (by simp)
  obtain ⟨A2, c2, rfl, _, _, _⟩ := hu.one
  have e0 := hcs 0 (by decide)
  have e1 := hcs 1 (by decide)
  have e2 := hcs 2 (by decide)
  simp only [Nat.zero_mul, Nat.add_zero] at e0 e1 e2
  exact ⟨b, o, c, A2, c2, rfl, h1, h2, e0, e1, e2, hu, hob⟩
theorem nat_at0 {w : World} {ok : Nat → Prop} {v : Value} {xs : List Nat} {n : Nat} {l : List Nat} (h : Sl elNat w ok v xs) (hr : xs = n :: l) :
    ∃ b o c, v = .slice (some ⟨b, o, none⟩) (l.length + 1) c ∧ l.length + 1 ≤ c ∧ c ≤ 9223372036854775807 ∧ w.cell? ⟨b, o, none⟩ = some (.int .i64 n) ∧ ok b := by
  subst hr
  obtain ⟨A, c, rfl, h1, h2, h3⟩ := Sl.one (enc := fun n : Nat => Value.int .i64 n) h
  obtain ⟨b, o, rfl, hob, hc⟩ := h3 (by simp)
  have e0 := hc 0 (by simp)
  exact ⟨b, o, c, rfl, h1, h2, by simpa using e0, hob⟩

set_option maxHeartbeats 600000 in
theorem at_any {F : Nat → Prop} {w : World} {D : Nat} {s : PDisk} (hD : DiskIn F w D s) (ht : Tab w) (seg at_ : Nat) (h64 : seg < 18446744073709551616) (ha64 : at_ < 18446744073709551616) :
    Calls Tryd.prog 52 #[ptrV D, .int .u64 seg, .int .u64 at_] w (RetB w (AtPost w.heap.size (logAt s seg at_))) := by
  have HD := Lib.hid hD
  clear hD
  unfold ptrV
  have HB0 : Hid (Below w.heap.size w (w.alloc (.cells #[.int .i64 0, .slice none 0 0, .string ⟨#[]⟩] 26))) := below_alloc (Below.refl _ _) _
  have HK0 : Hid (Blk (w.alloc (.cells #[.int .i64 0, .slice none 0 0, .string ⟨#[]⟩] 26)) w.heap.size [.int .i64 0, .slice none 0 0, .string ⟨#[]⟩] 26) := Blk.new w _ _
  by_cases hseg : seg < 10000000000
  · have HO : Hid (∀ W, Tab W → Calls Tryd.prog 36 #[.int .u8 109, .int .u64 seg] W (RetB W fun v _ => v = .tuple #[.string ⟨(segName seg).toArray⟩, .int .i64 0])) := fun W h => segOf_any seg hseg W h
    rcases hr : s.read (segName seg) with er | b
    · have hern : ((er : Int) != 0) = true := by rcases read_err hr with rfl | rfl <;> rfl
      have hq : logAt s seg at_ = .error er := by unfold logAt; rw [if_pos hseg, hr]
      rw [hq]
      have HR : Hid (∀ W, DiskIn F W D s → Calls Tryd.prog 29 #[.pointer (some ⟨D, 0, none⟩), .string ⟨(segName seg).toArray⟩] W (RetB W (ResB W.heap.size (.error er)))) := fun W h => by
        have := dreadI h (segName seg)
        rw [hr] at this
        exact this
      clear hr hq
      go_enter Tryd.func52, Tryd.ntmps52
      go_wp2_with (first
        | (go_at_call 36; refine (HO.out _ (ht.below (by exact HB0.out))).mono ?_; rintro e w1 ⟨v1, rfl, hb1, rfl⟩; have HB1 := Lib.hid hb1; clear hb1)
        | (go_at_call 29; refine (HR.out _ ((HD.out.below (by exact HB0.out)).below HB1.out)).mono ?_; rintro e w2 ⟨v2, rfl, hb2, rfl⟩; have hK2 := (HK0.out.belowS HB1.out).belowS hb2; have k0 := hK2.at 0 _ rfl; have k1 := hK2.at 1 _ rfl; have k2 := hK2.at 2 _ rfl; have f0 := hK2.frozen 0; have f1 := hK2.frozen 1; have f2 := hK2.frozen 2; have HK2 := Lib.hid hK2; have HB2 := Lib.hid hb2; clear hb2 hK2))
      refine bodyPost_ret (results_vals _ _ rfl (by simp) (.cell (by exact ((HK2.out.set _ _).set _ _).set _ _) rfl Tryd.underlying26 rfl rfl (.tmp rfl (.tmp rfl .nil)))) rfl ?_
      exact ⟨_, rfl, below_set3 (below_step (below_step HB0.out HB1.out) HB2.out) (Nat.le_refl _) _ _ _, rfl⟩
    · have hbl := read_len HD.out hr
      have hq : logAt s seg at_ = logRec b at_ := by unfold logAt; rw [if_pos hseg, hr]
      rw [hq]
      have HR : Hid (∀ W, DiskIn F W D s → Calls Tryd.prog 29 #[.pointer (some ⟨D, 0, none⟩), .string ⟨(segName seg).toArray⟩] W (RetB W (ResB W.heap.size (.ok b)))) := fun W h => by
        have := dreadI h (segName seg)
        rw [hr] at this
        exact this
      clear hr hq
      by_cases h1 : b.length < at_
      · have hq : logRec b at_ = .error 3 := by unfold logRec; rw [if_pos h1]
        rw [hq]
        have hd1 : decide (b.length < at_) = true := decide_eq_true h1
        clear hq
        go_enter Tryd.func52, Tryd.ntmps52
        go_wp2_with (first
          | (go_at_call 36; refine (HO.out _ (ht.below (by exact HB0.out))).mono ?_; rintro e w1 ⟨v1, rfl, hb1, rfl⟩; have HB1 := Lib.hid hb1; clear hb1)
          | (go_at_call 29; refine (HR.out _ ((HD.out.below (by exact HB0.out)).below HB1.out)).mono ?_; rintro e w2 ⟨v2, rfl, hb2, u2, rfl, ho2⟩; obtain ⟨A2, c2, hu2, hc1, hc2, hx2⟩ := ho2.sl.one; subst hu2; clear hx2 ho2; have hK2 := (HK0.out.belowS HB1.out).belowS hb2; have k0 := hK2.at 0 _ rfl; have k1 := hK2.at 1 _ rfl; have k2 := hK2.at 2 _ rfl; have f0 := hK2.frozen 0; have f1 := hK2.frozen 1; have f2 := hK2.frozen 2; have HK2 := Lib.hid hK2; have HB2 := Lib.hid hb2; clear hb2 hK2))
        refine bodyPost_ret (results_vals _ _ rfl (by simp) (.cell (by exact ((HK2.out.set _ _).set _ _).set _ _) rfl Tryd.underlying26 rfl rfl (.tmp rfl (.tmp rfl .nil)))) rfl ?_
        exact ⟨_, rfl, below_set3 (below_step (below_step HB0.out HB1.out) HB2.out) (Nat.le_refl _) _ _ _, rfl⟩
      · have hd1 : decide (b.length < at_) = false := decide_eq_false h1
        have hdl : (b.drop at_).length ≤ 1000000000 := by rw [List.length_drop]; omega
        have HRA : Hid (∀ W v ok, Sl elU8 W ok v (b.drop at_) → Calls Tryd.prog 60 #[v] W (RetB W (RecAllPost W.heap.size (recAll (b.drop at_))))) := fun W v ok h => recordAll_any v (b.drop at_) ok W h hdl
        have hlen := recAll_len (b.drop at_)
        have HQ : Hid (logRec b at_ = match (recAll (b.drop at_)).1, (recAll (b.drop at_)).2.1 with | r :: _, n :: _ => .ok (r, n) | _, _ => .error (recAtErr (recAll (b.drop at_)).2.2)) := by unfold Hid logRec; rw [if_neg h1]
        rcases hra : recAll (b.drop at_) with ⟨rs, es, er⟩
        rw [hra] at HRA HQ hlen
        have HRE := Lib.hid hra
        clear hra hdl
        go_enter Tryd.func52, Tryd.ntmps52
        go_wp2_with (go_at_call 36; refine (HO.out _ (ht.below (by exact HB0.out))).mono ?_; rintro e w1 ⟨v1, rfl, hb1, rfl⟩; have HB1 := Lib.hid hb1; clear hb1)
        refine (HR.out _ ((HD.out.below (by exact HB0.out)).below HB1.out)).mono ?_
        rintro e w2 ⟨v2, rfl, hb2, u2, rfl, ho2⟩
        have hK2 := (HK0.out.belowS HB1.out).belowS hb2
        have HK2 := Lib.hid hK2
        have HB2 : Hid (Below w.heap.size w w2) := below_step (below_step HB0.out HB1.out) hb2
        clear hK2 hb2
        rcases ho2.2 with ⟨hu, h0⟩ | ⟨gb, cap, cur, hu, hgb, hgh, hcp1, hcp2, hcp3, hcp4⟩
        · subst hu
          have hbn : b = [] := List.eq_nil_of_length_eq_zero h0
          subst hbn
          obtain rfl : at_ = 0 := by simp at h1; exact h1
          have hnil := HRE.out
          rw [List.drop_nil, recAll_nil] at hnil
          injection hnil with e1 e2
          injection e2 with e2 e3
          subst e1; subst e2; subst e3
          have HS : Hid (Sl elU8 w2 (fun _ => True) (.slice none 0 0) (([] : List UInt8).drop 0)) := Sl.nil (by omega)
          clear HRE hlen h0 h1 ho2
          go_wp2_with fail
          refine (HRA.out _ _ _ HS.out).mono ?_
          rintro e w3 ⟨v3, rfl, hb3, u3, u4, rfl, hs3, hs4⟩
          obtain ⟨A3, c3, hu3, hc31, hc32, hx3⟩ := hs3
          subst hu3
          clear hx3 hs4
          have hK3 := HK2.out.belowS hb3
          have k0 := hK3.at 0 _ rfl
          have k1 := hK3.at 1 _ rfl
          have k2 := hK3.at 2 _ rfl
          have f0 := hK3.frozen 0
          have f1 := hK3.frozen 1
          have f2 := hK3.frozen 2
          have HK3 := Lib.hid hK3
          have HB3 := Lib.hid hb3
          clear hb3 hK3
          go_wp2_with fail
          refine bodyPost_ret (results_vals _ _ rfl (by simp) (.cell (by exact ((HK3.out.set _ _).set _ _).set _ _) rfl Tryd.underlying26 rfl rfl (.tmp rfl (.tmp rfl .nil)))) rfl ?_
          rw [HQ.out]
          exact ⟨_, rfl, below_set3 (below_step HB2.out HB3.out) (Nat.le_refl _) _ _ _, rfl⟩
        · subst hu
          by_cases hcc : cap = at_
          · have hbe : b.length = cap := by omega
            have hcap : cap ≤ 9223372036854775807 := by simpa [maxLen] using hcp2
            have hdn : b.drop at_ = [] := List.drop_eq_nil_of_le (by omega)
            have hnil := HRE.out
            rw [hdn, recAll_nil] at hnil
            injection hnil with e1 e2
            injection e2 with e2 e3
            subst e1; subst e2; subst e3
            have HS : Hid (Sl elU8 w2 (fun _ => True) (.slice (some ⟨gb, 0, none⟩) 0 0) (b.drop at_)) := by unfold Hid; rw [hdn]; exact Sl.nil (by omega)
            rw [hbe]
            subst hcc
            clear HRE hlen h1 ho2 hgb hgh hcp3 hcp4 hcp2 hdn hcp1
            rw [hbe] at hd1
            have HBE := Lib.hid hbe
            clear hbe
            go_wp2_with fail
            refine (HRA.out _ _ _ HS.out).mono ?_
            rintro e w3 ⟨v3, rfl, hb3, u3, u4, rfl, hs3, hs4⟩
            obtain ⟨A3, c3, hu3, hc31, hc32, hx3⟩ := hs3
            subst hu3
            clear hx3 hs4
            have hK3 := HK2.out.belowS hb3
            have k0 := hK3.at 0 _ rfl
            have k1 := hK3.at 1 _ rfl
            have k2 := hK3.at 2 _ rfl
            have f0 := hK3.frozen 0
            have f1 := hK3.frozen 1
            have f2 := hK3.frozen 2
            have HK3 := Lib.hid hK3
            have HB3 := Lib.hid hb3
            clear hb3 hK3
            go_wp2_with fail
            refine bodyPost_ret (results_vals _ _ rfl (by simp) (.cell (by exact ((HK3.out.set _ _).set _ _).set _ _) rfl Tryd.underlying26 rfl rfl (.tmp rfl (.tmp rfl .nil)))) rfl ?_
            rw [HQ.out]
            exact ⟨_, rfl, below_set3 (below_step HB2.out HB3.out) (Nat.le_refl _) _ _ _, rfl⟩
          · skip
            have hs0 := Sl.low (ho2.sl) at_ (by omega)
            rw [Nat.zero_add, if_neg hcc] at hs0
            have HS := Lib.hid hs0
            clear hs0
            have hi1 : (at_ : Int) ≤ (b.length : Int) := by omega
            have hi2 : (b.length : Int) ≤ (cap : Int) := by omega
            have hcap : cap ≤ 9223372036854775807 := by simpa [maxLen] using hcp2
            clear ho2 hgb hgh hcp3 hcp4 hcp2
            rcases rs with _ | ⟨r, rs⟩
            · have hes : es = [] := List.eq_nil_of_length_eq_zero (by simpa using hlen)
              subst hes
              clear hlen
              by_cases her : er = 0
              · subst her
                go_wp2_with fail
                refine (HRA.out _ _ _ HS.out).mono ?_
                rintro e w3 ⟨v3, rfl, hb3, u3, u4, rfl, hs3, hs4⟩
                obtain ⟨A3, c3, hu3, hc31, hc32, hx3⟩ := hs3
                subst hu3
                clear hx3 hs4
                have hK3 := HK2.out.belowS hb3
                have k0 := hK3.at 0 _ rfl
                have k1 := hK3.at 1 _ rfl
                have k2 := hK3.at 2 _ rfl
                have f0 := hK3.frozen 0
                have f1 := hK3.frozen 1
                have f2 := hK3.frozen 2
                have HK3 := Lib.hid hK3
                have HB3 := Lib.hid hb3
                clear hb3 hK3
                go_wp2_with fail
                refine bodyPost_ret (results_vals _ _ rfl (by simp) (.cell (by exact ((HK3.out.set _ _).set _ _).set _ _) rfl Tryd.underlying26 rfl rfl (.tmp rfl (.tmp rfl .nil)))) rfl ?_
                rw [HQ.out]
                exact ⟨_, rfl, below_set3 (below_step HB2.out HB3.out) (Nat.le_refl _) _ _ _, rfl⟩
              · have HER : Hid (recAtErr er = er) := by unfold Hid recAtErr; rw [if_neg her]
                have hbe : (er == 0) = false := by simpa using her
                clear her
                go_wp2_with fail
                refine (HRA.out _ _ _ HS.out).mono ?_
                rintro e w3 ⟨v3, rfl, hb3, u3, u4, rfl, hs3, hs4⟩
                obtain ⟨A3, c3, hu3, hc31, hc32, hx3⟩ := hs3
                subst hu3
                clear hx3 hs4
                have hK3 := HK2.out.belowS hb3
                have k0 := hK3.at 0 _ rfl
                have k1 := hK3.at 1 _ rfl
                have k2 := hK3.at 2 _ rfl
                have f0 := hK3.frozen 0
                have f1 := hK3.frozen 1
                have f2 := hK3.frozen 2
                have HK3 := Lib.hid hK3
                have HB3 := Lib.hid hb3
                clear hb3 hK3
                go_wp2_with fail
                refine bodyPost_ret (results_vals _ _ rfl (by simp) (.cell (by exact ((HK3.out.set _ _).set _ _).set _ _) rfl Tryd.underlying26 rfl rfl (.tmp rfl (.tmp rfl .nil)))) rfl ?_
                rw [HQ.out]
                simp only [HER.out]
                exact ⟨_, rfl, below_set3 (below_step HB2.out HB3.out) (Nat.le_refl _) _ _ _, rfl⟩
            · rcases es with _ | ⟨n, es⟩
              · simp at hlen
              · have hl2 : es.length = rs.length := by simpa using hlen
                clear hlen
                go_wp2_with fail
                refine (HRA.out _ _ _ HS.out).mono ?_
                rintro e w3 ⟨v3, rfl, hb3, u3, u4, rfl, hs3, hs4⟩
                obtain ⟨b3, o3, c3, A3, ca3, hu3, hc31, hc32, q0, q1, q2, hsr, hob3⟩ := rec_at0 hs3 rfl
                obtain ⟨b4, o4, c4, hu4, hc41, hc42, q3, hob4⟩ := nat_at0 hs4 rfl
                subst hu3
                subst hu4
                clear hs3 hs4
                have hK3 := HK2.out.belowS hb3
                have k0 := hK3.at 0 _ rfl
                have k1 := hK3.at 1 _ rfl
                have k2 := hK3.at 2 _ rfl
                have f0 := hK3.frozen 0
                have f1 := hK3.frozen 1
                have f2 := hK3.frozen 2
                have HK3 := Lib.hid hK3
                have HB3 := Lib.hid hb3
                have HSR := Lib.hid hsr
                clear hb3 hK3 hsr
                go_wp2_with fail
                have hlt2 : w.heap.size < w2.heap.size := HK2.out.lt
                have hn3 : ¬ b3 = w.heap.size := by omega
                have hn3' : ¬ w.heap.size = b3 := by omega
                have hn4 : ¬ b4 = w.heap.size := by omega
                have hn4' : ¬ w.heap.size = b4 := by omega
                clear hob3 hob4 hlt2
                go_region
                have HW : Hid (∀ b, b ≠ w.heap.size → ((((w3.setCell ⟨w.heap.size, 0, none⟩ (.int .i64 r.kind)).setCell ⟨w.heap.size, 1, none⟩ (.slice A3 r.n.length ca3)).setCell ⟨w.heap.size, 2, none⟩ (.string ⟨r.text.toArray⟩)).drew).heap[b]? = w3.heap[b]?) := fun b hb => (Below.heap_setCell _ _ _ b hb).trans ((Below.heap_setCell _ _ _ b hb).trans (Below.heap_setCell _ _ _ b hb))
                go_wp2_with fail
                refine bodyPost_ret (results_vals _ _ rfl (by simp) (.cell (by exact ((HK3.out.set _ _).set _ _).set _ _) rfl Tryd.underlying26 rfl rfl (.tmp rfl (.tmp rfl .nil)))) rfl ?_
                rw [HQ.out]
                refine ⟨_, rfl, (below_set3 (below_step HB2.out HB3.out) (Nat.le_refl _) _ _ _).drew, _, rfl, ?_⟩
                have hlt2 : w.heap.size < w2.heap.size := HK2.out.lt
                exact (HSR.out.keep (fun b hb _ => HW.out b (by have hb : w2.heap.size ≤ b := hb; omega)) Nat.one_pos).weak (fun b hb _ => by have hb : w2.heap.size ≤ b := hb; omega) Nat.one_pos
  · have HO : Hid (∀ W, Tab W → Calls Tryd.prog 36 #[.int .u8 109, .int .u64 seg] W (RetB W fun v _ => v = .tuple #[.string ⟨#[]⟩, .int .i64 1])) := fun W h => segOf_bad seg hseg h64 W h
    have hq : logAt s seg at_ = .error 1 := by unfold logAt; rw [if_neg hseg]
    rw [hq]
    clear hq
    go_enter Tryd.func52, Tryd.ntmps52
    go_wp2_with (go_at_call 36; refine (HO.out _ (ht.below (by exact HB0.out))).mono ?_; rintro e w1 ⟨v1, rfl, hb1, rfl⟩; have hK2 := HK0.out.belowS hb1; have k0 := hK2.at 0 _ rfl; have k1 := hK2.at 1 _ rfl; have k2 := hK2.at 2 _ rfl; have f0 := hK2.frozen 0; have f1 := hK2.frozen 1; have f2 := hK2.frozen 2; have HK2 := Lib.hid hK2; have HB1 := Lib.hid hb1; clear hb1 hK2)
    refine bodyPost_ret (results_vals _ _ rfl (by simp) (.cell (by exact ((HK2.out.set _ _).set _ _).set _ _) rfl Tryd.underlying26 rfl rfl (.tmp rfl (.tmp rfl .nil)))) rfl ?_
    exact ⟨_, rfl, below_set3 (below_step HB0.out HB1.out) (Nat.le_refl _) _ _ _, rfl⟩

/-! ### Read -/
set_option maxHeartbeats 800000 in
theorem logRead_any {F : Nat → Prop} {w : World} {D L : Nat} {s : PDisk} {g : PLog} (hD : DiskIn F w D s) (hLg : LogAt w L D g) (ht : Tab w) (seg at_ : Nat) (h64 : seg < 18446744073709551616) (ha64 : at_ < 18446744073709551616) :
    Calls Tryd.prog 15 #[ptrV L, .int .u64 seg, .int .u64 at_] w (RetB w (AtPost w.heap.size (logAt s seg at_))) := by
  have HB0 : Hid (Below w.heap.size w (w.alloc (.cells #[.int .i64 0, .slice none 0 0, .string ⟨#[]⟩] 26))) := below_alloc (Below.refl _ _) _
  have HK0 : Hid (Blk (w.alloc (.cells #[.int .i64 0, .slice none 0 0, .string ⟨#[]⟩] 26)) w.heap.size [.int .i64 0, .slice none 0 0, .string ⟨#[]⟩] 26) := Blk.new w _ _
  have HA := Lib.hid (at_any (hD.below (by exact HB0.out)) (ht.below (by exact HB0.out)) seg at_ h64 ha64)
  have l0 := (hLg.below (by exact HB0.out)).1.at 0 _ rfl
  have hlt := hLg.1.lt
  clear hD hLg
  unfold ptrV at *
  rcases hq : logAt s seg at_ with er | ⟨r, n⟩
  · rw [hq] at HA
    clear hq
    go_enter Tryd.func15, Tryd.ntmps15
    go_wp2_with fail
    refine HA.out.mono ?_
    rintro e w3 ⟨v3, rfl, hb3, rfl⟩
    have hK3 := HK0.out.belowS hb3
    have k0 := hK3.at 0 _ rfl
    have k1 := hK3.at 1 _ rfl
    have k2 := hK3.at 2 _ rfl
    have f0 := hK3.frozen 0
    have f1 := hK3.frozen 1
    have f2 := hK3.frozen 2
    have HK3 := Lib.hid hK3
    have HB3 := Lib.hid hb3
    clear hb3 hK3
    go_wp2_with fail
    refine bodyPost_ret (results_vals _ _ rfl (by simp) (.cell (by exact ((HK3.out.set _ _).set _ _).set _ _) rfl Tryd.underlying26 rfl rfl (.tmp rfl (.tmp rfl .nil)))) rfl ?_
    exact ⟨_, rfl, below_set3 (below_step HB0.out HB3.out) (Nat.le_refl _) _ _ _, rfl⟩
  · rw [hq] at HA
    clear hq
    go_enter Tryd.func15, Tryd.ntmps15
    go_wp2_with fail
    refine HA.out.mono ?_
    rintro e w3 ⟨v3, rfl, hb3, u3, rfl, hs3⟩
    obtain ⟨A3, c3, hu3, hc31, hc32, hx3⟩ := hs3.one
    subst hu3
    have hK3 := HK0.out.belowS hb3
    have k0 := hK3.at 0 _ rfl
    have k1 := hK3.at 1 _ rfl
    have k2 := hK3.at 2 _ rfl
    have f0 := hK3.frozen 0
    have f1 := hK3.frozen 1
    have f2 := hK3.frozen 2
    have HK3 := Lib.hid hK3
    have HB3 := Lib.hid hb3
    have HS3 := Lib.hid hs3
    clear hb3 hK3 hs3 hx3
    go_wp2_with fail
    refine bodyPost_ret (results_vals _ _ rfl (by simp) (.cell (by exact ((HK3.out.set _ _).set _ _).set _ _) rfl Tryd.underlying26 rfl rfl (.tmp rfl (.tmp rfl .nil)))) rfl ?_
    refine ⟨_, rfl, below_set3 (below_step HB0.out HB3.out) (Nat.le_refl _) _ _ _, _, rfl, ?_⟩
    refine (HS3.out.keep (fun b hb _ => ?_) Nat.one_pos).weak (fun b hb _ => ?_) Nat.one_pos
    · have hb2 : (w.alloc (.cells #[.int .i64 0, .slice none 0 0, .string ⟨#[]⟩] 26)).heap.size ≤ b := hb
      rw [size_al] at hb2
      have hne : b ≠ w.heap.size := by omega
      exact (Below.heap_setCell _ _ _ b hne).trans ((Below.heap_setCell _ _ _ b hne).trans (Below.heap_setCell _ _ _ b hne))
    · have hb2 : (w.alloc (.cells #[.int .i64 0, .slice none 0 0, .string ⟨#[]⟩] 26)).heap.size ≤ b := hb
      rw [size_al] at hb2
      omega

end Go.Proofs.YtocmnhjgknaocaaDoor
