import Derived.Test.YtocmnhjgknaocaaDoorFrame
set_option linter.unusedVariables false
set_option linter.unusedSimpArgs false
set_option maxRecDepth 100000
namespace Go.Proofs.YtocmnhjgknaocaaDoor
open Go.RowKit Tb

theorem sumCut_some {xs ys : List UInt8} (h : sumCut xs = some ys) : 4 ≤ xs.length ∧ ys = xs.take (xs.length - 4) := by
  unfold sumCut at h
  split at h
  · cases h
  · split at h
    · injection h with h; exact ⟨by omega, h.symm⟩
    · cases h
theorem len3 {l : List UInt8} (h : l.length = 3) : ∃ a b c, l = [a, b, c] := by
  match l, h with
  | [a, b, c], _ => exact ⟨a, b, c, rfl⟩
theorem i64_or_nat (a b : Nat) (ha : a < 4611686018427387904) (hb : b < 4611686018427387904) : bits .or .i64 (a : Int) (b : Int) = ((a ||| b : Nat) : Int) := by
  have hx : a ||| b < 2 ^ 62 := Nat.or_lt_two_pow (by omega) (by omega)
  show IntKind.i64.wrap ((BitVec.ofInt 64 (a : Int) ||| BitVec.ofInt 64 (b : Int)).toNat : Int) = _
  rw [BitVec.toNat_or, ofInt_u64 a (by omega), ofInt_u64 b (by omega), IntKind.wrap_i64]
  omega
theorem i64_join (a b : Nat) (ha : a < 256) (hb : b < 256) : bits BinOp.or IntKind.i64 (a : Int) ((b : Int) * 256) = ((a + b * 256 : Nat) : Int) := by
  have e : ((b : Int) * 256) = ((b * 256 : Nat) : Int) := by push_cast; rfl
  rw [e, i64_or_nat a (b * 256) (by omega) (by omega), Nat.or_comm, nat_join 8 (b * 256) a (by omega) (by omega), Nat.add_comm]

/-- The values of results: in slots, or in blocks of their own. -/
inductive Vals (P : Program) (tmps : Array Value) (w : World) : List ResultVar → List Value → Prop where
  | nil : Vals P tmps w [] []
  | tmp {u : Tmp} {rs : List ResultVar} {v : Value} {vs : List Value} (hu : tmps.getD u undef = v) (h : Vals P tmps w rs vs) : Vals P tmps w (.tmp u :: rs) (v :: vs)
  | cell {p : Tmp} {ty : TypeId} {rs : List ResultVar} {vs : List Value} {g : Nat} {t : TypeId} {cs : List Value} {d : TypeDesc} (hB : Blk w g cs t) (hp : tmps.getD p undef = .pointer (some ⟨g, 0, none⟩))
      (hu : P.underlying ty = some d) (hd : (match d with | .struct _ | .array _ _ => true | _ => false) = true) (hi : (P.info? ty).map (·.size) = some cs.toArray.size)
      (h : Vals P tmps w rs vs) : Vals P tmps w (.cell p ty :: rs) (.agg cs.toArray :: vs)
theorem Vals.run {P : Program} {tmps : Array Value} {w : World} {rs : List ResultVar} {vs : List Value} (hv : Vals P tmps w rs vs) (f : ResultVar → Sem Value) (hf : ∀ u, f (.tmp u) = pure (tmps.getD u undef)) (hc : ∀ a t, f (.cell a t) = (do loadVar t (← asAddr (tmps.getD a undef)))) :
    (rs.mapM f).run P w = .ok vs w := by
  induction hv with
  | nil => simp
  | tmp hu h ih => subst hu; simp [List.mapM_cons, hf, ih]
  | cell hB hp hu hd hi h ih =>
    rw [List.mapM_cons, hc, hp]
    simp [asAddr, run_loadVar_row w _ _ _ _ (0, 0) _ hB hu hd hi, ih]
theorem results_vals {P : Program} {tmps : Array Value} {w : World} {fn : Func} (rs : List ResultVar) (vs : List Value) (h : fn.results = rs.toArray) (hl : vs.length ≠ 1) (hv : Vals P tmps w rs vs) : (results fn tmps).run P w = .ok (.tuple vs.toArray) w := by
  unfold results
  rw [h, List.mapM_toArray]
  simp only [Sem.run_bind, Sem.run_map]
  rw [hv.run]
  · simp [hl]
  · intro u
    rfl
  · intro a t
    rfl
theorem results_val {P : Program} {tmps : Array Value} {w : World} {fn : Func} {r : ResultVar} {v : Value} (h : fn.results = #[r]) (hv : Vals P tmps w [r] [v]) : (results fn tmps).run P w = .ok v w := by
  unfold results
  rw [show fn.results = [r].toArray from h, List.mapM_toArray]
  simp only [Sem.run_bind, Sem.run_map]
  rw [hv.run]
  · simp
  · intro u
    rfl
  · intro a t
    rfl

/-- What Read answers. -/
def ReadPost (base : Nat) (o : Except Int (Frm × Nat)) (r : Value) (w' : World) : Prop :=
  match o with
  | .error e => r = .tuple #[.agg #[.int .u8 0, .slice none 0 0], .int .i64 0, .int .i64 e]
  | .ok (x, n) => ∃ u, r = .tuple #[.agg #[.int .u8 x.kind.toNat, u], .int .i64 n, .int .i64 0] ∧ OwnB w' base u x.body

theorem below_set {B : Nat} {w W : World} (h : Below B w W) {g : Nat} (hg : B ≤ g) (i : Nat) (v : Value) : Below B w (W.setCell ⟨g, i, none⟩ v) :=
  h.trans ⟨rfl, rfl, rfl, by rw [show (W.setCell ⟨g, i, none⟩ v).heap.size = W.heap.size from by simp [World.setCell]]; omega, fun k hk => Below.heap_setCell W ⟨g, i, none⟩ v k (by show k ≠ g; omega)⟩

theorem own_keep {w w' : World} {base : Nat} {e : TypeId} {size n : Nat} {v : Value} {xs : List Value} (h : w.ownsRow base e size v n xs) (hk : ∀ k, base ≤ k → k < w.heap.size → w'.heap[k]? = w.heap[k]?) : w'.ownsRow base e size v n xs := by
  refine ⟨h.1, ?_⟩
  rcases h.2 with hn | ⟨g, cap, cur, rfl, hb, hgg, rest⟩
  · exact .inl hn
  · exact .inr ⟨g, cap, cur, rfl, hb, by rw [hk g hb (Array.getElem?_eq_some_iff.1 hgg).1]; exact hgg, rest⟩
theorem own_set {w : World} {base : Nat} {e : TypeId} {size n : Nat} {v : Value} {xs : List Value} (h : w.ownsRow base e size v n xs) {g : Nat} (hg : g < base) (i : Nat) (u : Value) : (w.setCell ⟨g, i, none⟩ u).ownsRow base e size v n xs :=
  own_keep h fun k hk _ => Below.heap_setCell w ⟨g, i, none⟩ u k (by show k ≠ g; omega)

set_option maxHeartbeats 1600000 in
theorem frameRead_any (v : Value) (xs : List UInt8) (ok : Nat → Prop) (w : World) (hv : Sl elU8 w ok v xs) (hlen : xs.length ≤ 1000000000) :
    Calls Tryd.prog 95 #[v] w (RetB w (ReadPost w.heap.size (frmRead xs))) := by
  have hv0 := hv
  obtain ⟨A, c, rfl, hc1, hc2, hc⟩ := hv.one
  clear hv
  by_cases hl : xs.length < 7
  · have hq : frmRead xs = .error 3 := by unfold frmRead; rw [if_pos hl]
    rw [hq]
    have hd : decide ((xs.length : Int) < 7) = true := by simp; omega
    clear hc hv0
    go_enter Tryd.func95, Tryd.ntmps95
    go_wp2_with fail
    refine bodyPost_ret (results_vals _ _ rfl (by simp) (.cell (by exact Blk.new _ _ _) rfl Tryd.underlying126 rfl rfl (.tmp rfl (.tmp rfl .nil)))) rfl ?_
    exact ⟨_, rfl, below_alloc (Below.refl _ _) _, rfl⟩
  · obtain ⟨b, o, rfl, hob, hcell⟩ := hc (by omega)
    clear hcell hc
    have hd : decide ((xs.length : Int) < 7) = false := by simp; omega
    have hi0 : (7 : Int) ≤ (c : Int) := by omega
    have ht := Sl.take hv0 7 (by omega)
    have htl : (xs.take 7).length = 7 := by rw [List.length_take]; omega
    have HT := Lib.hid ht
    have HV := Lib.hid hv0
    have HTL := Lib.hid htl
    have HL := Lib.hid hl
    have HLEN := Lib.hid hlen
    clear ht hv0 htl hl hlen
    have hbel0 : Below w.heap.size w (w.alloc (.cells #[Value.int .u8 0, .slice none 0 0] 126)) := below_alloc (Below.refl _ _) _
    have hB0 := Blk.new w [Value.int .u8 0, .slice none 0 0] 126
    have HB0 := Lib.hid hbel0
    have HBK := Lib.hid hB0
    clear hbel0 hB0
    rcases hq1 : sumCut (xs.take 7) with _ | h
    · have hq : frmRead xs = .error 8 := by unfold frmRead; rw [if_neg HL.out, hq1]
      rw [hq]
      go_enter Tryd.func95, Tryd.ntmps95
      go_wp2_with (go_at_call 125; refine (cut_any _ (xs.take 7) ok _ (by exact HT.out.below HB0.out Nat.one_pos) (by have := HTL.out; omega)).mono ?_; rw [hq1]; rintro e w1 ⟨v1, rfl, hb1, rfl⟩; have hB1 := HBK.out.belowS hb1; have hc0 := hB1.at 0 _ rfl; have hc1 := hB1.at 1 _ rfl; have hf0 := hB1.frozen 0; have hf1 := hB1.frozen 1)
      refine bodyPost_ret (results_vals _ _ rfl (by simp) (.cell (by exact (hB1.set _ _).set _ _) rfl Tryd.underlying126 rfl rfl (.tmp rfl (.tmp rfl .nil)))) rfl ?_
      exact ⟨_, rfl, below_set (below_set (below_step HB0.out hb1) (Nat.le_refl _) _ _) (Nat.le_refl _) _ _, rfl⟩
    · have hy := (sumCut_some hq1).2
      rw [HTL.out] at hy
      obtain ⟨h0, h1, h2, rfl⟩ := len3 (l := h) (by rw [hy, List.length_take, HTL.out]; rfl)
      clear hy
      obtain ⟨n, hn⟩ : ∃ n, n = h1.toNat + h2.toNat * 256 := ⟨_, rfl⟩
      have hor := i64_join h1.toNat h2.toNat h1.toNat_lt h2.toNat_lt
      have hh2 := h2.toNat_lt
      have hh1 := h1.toNat_lt
      have hn6 : n < 65792 := by omega
      rw [← hn] at hor
      have HN := Lib.hid hn
      have HQ : Hid (frmRead xs = if 400 < n then .error 2 else if xs.length < 11 + n then .error 3 else
          match sumCut ((xs.take (11 + n)).drop 7) with
          | none => .error 8
          | some body => .ok (⟨h0, body⟩, 11 + n)) := by
        unfold Hid frmRead
        rw [if_neg HL.out, hq1, HN.out]
        rfl
      clear hn
      by_cases hn4 : 400 < n
      · rw [HQ.out, if_pos hn4]
        have hd4 : decide ((400 : Int) < (n : Int)) = true := by simp; omega
        go_enter Tryd.func95, Tryd.ntmps95
        go_wp2_with (go_at_call 125; refine (cut_any _ (xs.take 7) ok _ (by exact HT.out.below HB0.out Nat.one_pos) (by have := HTL.out; omega)).mono ?_; rw [hq1]; rintro e w1 ⟨v1, rfl, hb1, u1, rfl, ho1⟩; have hB1 := HBK.out.belowS hb1; have hc0 := hB1.at 0 _ rfl; have hc1 := hB1.at 1 _ rfl; have hf0 := hB1.frozen 0; have hf1 := hB1.frozen 1; have hs1 := ho1.sl.one; obtain ⟨A1, k1, rfl, _, _, hcell1⟩ := hs1; obtain ⟨b1, o1, rfl, _, hcell1⟩ := hcell1 (by simp); have hd0 : w1.cell? ⟨b1, o1 + 0, none⟩ = some (.int .u8 h0.toNat) := hcell1 0 (by simp); have hd1 : w1.cell? ⟨b1, o1 + 1, none⟩ = some (.int .u8 h1.toNat) := hcell1 1 (by simp); have hd2 : w1.cell? ⟨b1, o1 + 2, none⟩ = some (.int .u8 h2.toNat) := hcell1 2 (by simp); clear hcell1)
        go_quiet (fail)
        go_wp2_with fail
        refine bodyPost_ret (results_vals _ _ rfl (by simp) (.cell (by exact (Blk.set (Blk.set (w := w1.drewN nq) hB1 _ _) _ _)) rfl Tryd.underlying126 rfl rfl (.tmp rfl (.tmp rfl .nil)))) rfl ?_
        exact ⟨_, rfl, below_set (below_set (below_drewN (below_step HB0.out hb1) _) (Nat.le_refl _) _ _) (Nat.le_refl _) _ _, rfl⟩
      · have hd4 : decide ((400 : Int) < (n : Int)) = false := by simp; omega
        by_cases hsh : xs.length < 11 + n
        · rw [HQ.out, if_neg hn4, if_pos hsh]
          have hd5 : decide ((xs.length : Int) < 7 + (n : Int) + 4) = true := by simp; omega
          go_enter Tryd.func95, Tryd.ntmps95
          go_wp2_with (go_at_call 125; refine (cut_any _ (xs.take 7) ok _ (by exact HT.out.below HB0.out Nat.one_pos) (by have := HTL.out; omega)).mono ?_; rw [hq1]; rintro e w1 ⟨v1, rfl, hb1, u1, rfl, ho1⟩; have hB1 := HBK.out.belowS hb1; have hc0 := hB1.at 0 _ rfl; have hc1 := hB1.at 1 _ rfl; have hf0 := hB1.frozen 0; have hf1 := hB1.frozen 1; have hs1 := ho1.sl.one; obtain ⟨A1, k1, rfl, _, _, hcell1⟩ := hs1; obtain ⟨b1, o1, rfl, _, hcell1⟩ := hcell1 (by simp); have hd0 : w1.cell? ⟨b1, o1 + 0, none⟩ = some (.int .u8 h0.toNat) := hcell1 0 (by simp); have hd1 : w1.cell? ⟨b1, o1 + 1, none⟩ = some (.int .u8 h1.toNat) := hcell1 1 (by simp); have hd2 : w1.cell? ⟨b1, o1 + 2, none⟩ = some (.int .u8 h2.toNat) := hcell1 2 (by simp); clear hcell1)
          go_quiet (fail)
          go_wp2_with fail
          refine bodyPost_ret (results_vals _ _ rfl (by simp) (.cell (by exact (Blk.set (Blk.set (w := w1.drewN nq) hB1 _ _) _ _)) rfl Tryd.underlying126 rfl rfl (.tmp rfl (.tmp rfl .nil)))) rfl ?_
          exact ⟨_, rfl, below_set (below_set (below_drewN (below_step HB0.out hb1) _) (Nat.le_refl _) _ _) (Nat.le_refl _) _ _, rfl⟩
        · have HQ2 : Hid (frmRead xs = match sumCut ((xs.take (11 + n)).drop 7) with
            | none => .error 8
            | some body => .ok (⟨h0, body⟩, 11 + n)) := by unfold Hid; rw [HQ.out, if_neg hn4, if_neg hsh]
          have hd5 : decide ((xs.length : Int) < 7 + (n : Int) + 4) = false := by simp; omega
          have hi1 : (7 : Int) + n + 4 ≤ (c : Int) := by omega
          have hn40 : n ≤ 400 := by omega
          clear HQ
          have hdl : ((xs.take (11 + n)).drop 7).length = n + 4 := by simp; omega
          have HD : Hid (Sl elU8 w ok (.slice (some ⟨b, o + 7, none⟩) (7 + n - 3) (c - 7)) ((xs.take (11 + n)).drop 7)) := by
            have h := Sl.drop (Sl.take HV.out (11 + n) (by omega)) 7 (by rw [List.length_take]; omega)
            rw [show 11 + n - 7 = 7 + n - 3 from by omega] at h
            exact h
          have HDL := Lib.hid hdl
          clear hdl
          rcases hq2 : sumCut ((xs.take (11 + n)).drop 7) with _ | body
          · have HQ3 : Hid (frmRead xs = .error 8) := by unfold Hid; rw [HQ2.out, hq2]
            rw [HQ3.out]
            clear HQ2
            go_enter Tryd.func95, Tryd.ntmps95
            go_wp2_with (go_at_call 125; refine (cut_any _ (xs.take 7) ok _ (by exact HT.out.below HB0.out Nat.one_pos) (by have := HTL.out; omega)).mono ?_; rw [hq1]; rintro e w1 ⟨v1, rfl, hb1, u1, rfl, ho1⟩; have hB1 := HBK.out.belowS hb1; have hc0 := hB1.at 0 _ rfl; have hc1 := hB1.at 1 _ rfl; have hf0 := hB1.frozen 0; have hf1 := hB1.frozen 1; have hs1 := ho1.sl.one; obtain ⟨A1, k1, rfl, _, _, hcell1⟩ := hs1; obtain ⟨b1, o1, rfl, _, hcell1⟩ := hcell1 (by simp); have hd0 : w1.cell? ⟨b1, o1 + 0, none⟩ = some (.int .u8 h0.toNat) := hcell1 0 (by simp); have hd1 : w1.cell? ⟨b1, o1 + 1, none⟩ = some (.int .u8 h1.toNat) := hcell1 1 (by simp); have hd2 : w1.cell? ⟨b1, o1 + 2, none⟩ = some (.int .u8 h2.toNat) := hcell1 2 (by simp); clear hcell1)
            go_quiet (fail)
            go_wp2_with (go_at_call 125; refine (cut_any _ ((xs.take (11 + n)).drop 7) ok _ (by exact (HD.out.below (below_step HB0.out hb1) Nat.one_pos).heap rfl Nat.one_pos) (by have := HLEN.out; simp; omega)).mono ?_; rw [hq2]; rintro e w2 ⟨v2, rfl, hb2, rfl⟩; have hB2 := Blk.belowS (w := w1.drewN nq) hB1 hb2; have hc0 := hB2.at 0 _ rfl; have hc1 := hB2.at 1 _ rfl; have hf0 := hB2.frozen 0; have hf1 := hB2.frozen 1; have hd0 : w2.cell? ⟨b1, o1, none⟩ = some (.int .u8 h0.toNat) := cell_below (W := w1.drewN nq) hb2 hd0)
            refine bodyPost_ret (results_vals _ _ rfl (by simp) (.cell (by exact (hB2.set _ _).set _ _) rfl Tryd.underlying126 rfl rfl (.tmp rfl (.tmp rfl .nil)))) rfl ?_
            exact ⟨_, rfl, below_set (below_set (below_step (below_drewN (below_step HB0.out hb1) _) hb2) (Nat.le_refl _) _ _) (Nat.le_refl _) _ _, rfl⟩
          · have HQ3 : Hid (frmRead xs = .ok (⟨h0, body⟩, 11 + n)) := by unfold Hid; rw [HQ2.out, hq2]
            rw [HQ3.out]
            clear HQ2
            go_enter Tryd.func95, Tryd.ntmps95
            go_wp2_with (go_at_call 125; refine (cut_any _ (xs.take 7) ok _ (by exact HT.out.below HB0.out Nat.one_pos) (by have := HTL.out; omega)).mono ?_; rw [hq1]; rintro e w1 ⟨v1, rfl, hb1, u1, rfl, ho1⟩; have hB1 := HBK.out.belowS hb1; have hc0 := hB1.at 0 _ rfl; have hc1 := hB1.at 1 _ rfl; have hf0 := hB1.frozen 0; have hf1 := hB1.frozen 1; have hs1 := ho1.sl.one; obtain ⟨A1, k1, rfl, _, _, hcell1⟩ := hs1; obtain ⟨b1, o1, rfl, _, hcell1⟩ := hcell1 (by simp); have hd0 : w1.cell? ⟨b1, o1 + 0, none⟩ = some (.int .u8 h0.toNat) := hcell1 0 (by simp); have hd1 : w1.cell? ⟨b1, o1 + 1, none⟩ = some (.int .u8 h1.toNat) := hcell1 1 (by simp); have hd2 : w1.cell? ⟨b1, o1 + 2, none⟩ = some (.int .u8 h2.toNat) := hcell1 2 (by simp); clear hcell1)
            go_quiet (fail)
            go_wp2_with (go_at_call 125; refine (cut_any _ ((xs.take (11 + n)).drop 7) ok _ (by exact (HD.out.below (below_step HB0.out hb1) Nat.one_pos).heap rfl Nat.one_pos) (by have := HLEN.out; simp; omega)).mono ?_; rw [hq2]; rintro e w2 ⟨v2, rfl, hb2, u2, rfl, ho2⟩; obtain ⟨A2, k2, rfl, _, _, _⟩ := ho2.sl.one; have hB2 := Blk.belowS (w := w1.drewN nq) hB1 hb2; have hc0 := hB2.at 0 _ rfl; have hc1 := hB2.at 1 _ rfl; have hf0 := hB2.frozen 0; have hf1 := hB2.frozen 1; have hd0 : w2.cell? ⟨b1, o1, none⟩ = some (.int .u8 h0.toNat) := cell_below (W := w1.drewN nq) hb2 hd0)
            refine bodyPost_ret (results_vals _ _ rfl (by simp) (.cell (by exact (hB2.set _ _).set _ _) rfl Tryd.underlying126 rfl rfl (.tmp rfl (.tmp rfl .nil)))) rfl ?_
            have hlt : w.heap.size < (w1.drewN nq).heap.size := hB1.lt
            refine ⟨_, rfl, below_set (below_set (below_step (below_drewN (below_step HB0.out hb1) _) hb2) (Nat.le_refl _) _ _) (Nat.le_refl _) _ _, .slice A2 body.length k2, ?_, OwnB.less (own_set (own_set ho2 hlt _ _) hlt _ _) (Nat.le_of_lt hlt)⟩
            have e : (7 : Int) + n + 4 = ((11 + n : Nat) : Int) := by omega
            rw [← e]
            rfl

end Go.Proofs.YtocmnhjgknaocaaDoor
