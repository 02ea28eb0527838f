import Derived.Test.YtocmnhjgknaocaaDoorRec4
import Derived.Test.YtocmnhjgknaocaaDoorOwn2
set_option linter.unusedVariables false
set_option linter.unusedSimpArgs false
set_option maxRecDepth 100000
namespace Go.Proofs.YtocmnhjgknaocaaDoor
open Go.RowKit Tb

theorem frmRead_body {b : List UInt8} {x : Frm} {n : Nat} (h : frmRead b = .ok (x, n)) : x.body.length ≤ 400 := by
  unfold frmRead at h
  split at h
  · cases h
  · split at h
    · cases h
    · simp only at h
      split at h
      · cases h
      · split at h
        · cases h
        · split at h
          · cases h
          · rename_i hq
            injection h with h; injection h with h1 h2
            subst h1
            have := (sumCut_some hq).2
            simp only at this ⊢
            rw [this, List.length_take, List.length_drop, List.length_take]
            omega
theorem frmAllN_mem : ∀ (k : Nat) (b : List UInt8), ∀ x ∈ (frmAllN k b).1, x.body.length ≤ 400
  | 0, b, x, h => by simp [frmAllN] at h
  | k + 1, b, x, h => by
    unfold frmAllN at h
    split at h
    · simp at h
    · split at h
      · simp at h
      · rename_i y n hq
        simp only [List.mem_cons] at h
        rcases h with rfl | h
        · exact frmRead_body hq
        · exact frmAllN_mem k _ x h
theorem frmAllN_len : ∀ (k : Nat) (b : List UInt8), (frmAllN k b).1.length ≤ k
  | 0, b => by simp [frmAllN]
  | k + 1, b => by
    unfold frmAllN
    split
    · simp
    · split
      · simp
      · simp only [List.length_cons]
        have := frmAllN_len k (b.drop ‹Nat›)
        omega
theorem takeNums_err : ∀ (k : Nat) (b : List UInt8) (e : Int), takeNums k b = .error e → e = 2 ∨ e = 3
  | 0, b, e, h => by cases h
  | k + 1, b, e, h => by
    unfold takeNums at h
    split at h
    · rename_i hq; injection h with h; subst h; exact vgetFrom_err _ _ _ _ hq
    · split at h
      · rename_i hq; injection h with h; subst h; exact takeNums_err k _ _ hq
      · cases h
theorem recRead_err {x : Frm} {e : Int} (h : recRead x = .error e) : e = 2 ∨ e = 3 := by
  unfold recRead at h
  split at h
  · split at h
    · rename_i hq; injection h with h; subst h; exact takeNums_err _ _ _ hq
    · split at h
      · cases h
      · injection h with h; omega
  · injection h with h; omega

theorem infoRec : (Tryd.prog.info? 26).map (fun i => (i.zero, i.size, i.bytes)) = some (some (.agg #[.int .i64 0, .slice none 0 0, .string ⟨#[]⟩]), 3, 48) := by kernel_rfl
def OwnI (w : World) (base : Nat) (v : Value) (xs : List Nat) : Prop := w.ownsRow base 3 1 v xs.length (xs.map fun n : Nat => Value.int .i64 n)
def elNat : El Nat := elOne fun n => .int .i64 n
theorem OwnI.sl {w : World} {base : Nat} {v : Value} {xs : List Nat} (h : OwnI w base v xs) : Sl elNat w (fun b => base ≤ b) v xs := (own_sl h).1
def RecAllPost (base : Nat) (q : List Rec × List Nat × Int) (r : Value) (w' : World) : Prop :=
  ∃ u1 u2, r = .tuple #[u1, u2, .int .i64 q.2.2] ∧ Sl elRec w' (fun b => base ≤ b) u1 q.1 ∧ Sl elNat w' (fun b => base ≤ b) u2 q.2.1

/-- A frame, read out of a slice. -/
theorem frm_at {w : World} {ok : Nat → Prop} {v : Value} {fs : List Frm} (h : Sl elFrm w ok v fs) {k : Nat} (hk : k < fs.length) :
    ∃ b o c A c2, v = .slice (some ⟨b, o, none⟩) fs.length c ∧ fs.length ≤ c ∧ c ≤ 9223372036854775807 ∧ w.cell? ⟨b, o + k * 2, none⟩ = some (.int .u8 fs[k].kind.toNat) ∧ w.cell? ⟨b, o + k * 2 + 1, none⟩ = some (.slice A fs[k].body.length c2) ∧
      Sl elU8 w ok (.slice A fs[k].body.length c2) fs[k].body := by
  obtain ⟨A, c, rfl, h1, h2, h3⟩ := h
  obtain ⟨b, o, rfl, _, hc⟩ := h3 (by omega)
  obtain ⟨cs, ⟨u, rfl, hu⟩, hcs⟩ := hc k hk
  obtain ⟨A2, c2, rfl, _, _, _⟩ := hu.one
  exact ⟨b, o, c, A2, c2, rfl, h1, h2, hcs 0 (by decide), hcs 1 (by decide), hu⟩

set_option maxHeartbeats 1600000 in
theorem recordAll_any (v : Value) (xs : List UInt8) (ok : Nat → Prop) (w : World) (hv : Sl elU8 w ok v xs) (hlen : xs.length ≤ 1000000000) :
    Calls Tryd.prog 60 #[v] w (RetB w (RecAllPost w.heap.size (recAll xs))) := by
  obtain ⟨A, c, hve, hc1, hc2, _⟩ := hv.one
  have HV := Lib.hid hv
  have HLEN := Lib.hid hlen
  subst hve
  have hmem := frmAllN_mem xs.length xs
  have hfl : (frmAll xs).1.length ≤ xs.length := frmAllN_len xs.length xs
  have hq : recAll xs = recsOf (frmAll xs).2.2 0 (frmAll xs).1 := rfl
  rcases hfa : frmAll xs with ⟨fs, fn, fe⟩
  rw [hfa] at hfl hq
  have hmem : ∀ x ∈ fs, x.body.length ≤ 400 := by have h : (frmAllN xs.length xs).1 = fs := congrArg (·.1) hfa; rw [h] at hmem; exact hmem
  rw [hq]
  have HF : Hid (Calls Tryd.prog 80 #[.slice A xs.length c] w (RetB w (FrmAllPost w.heap.size (fs, fn, fe)))) := by
    unfold Hid
    rw [← hfa]
    exact frameAll_any _ xs ok w hv hlen
  have hfl1 : fs.length ≤ 1000000000 := Nat.le_trans hfl hlen
  have HM := Lib.hid hmem
  clear hv hlen hq hmem hfa hfl
  simp only
  go_enter Tryd.func60, Tryd.ntmps60
  go_wp2_with (go_at_call 80; refine HF.out.mono ?_; rintro e w1 ⟨v1, rfl, hb1, u1, rfl, hs1⟩; have hsl := hs1.sl; obtain ⟨Af, cf, hu1e, hcf1, hcf2, _⟩ := hs1.sl; subst hu1e)
  have HS := Lib.hid hsl
  clear hs1 hsl
  go_loopw [8, 9, 10, 25] (fun vl ve at_ i wr => ∃ (k a : Nat) (rs : List Rec) (es : List Nat), k ≤ fs.length ∧ i = .int .i64 k ∧ at_ = .int .i64 a ∧ a ≤ 411 * k ∧ rs.length = k ∧ es.length = k ∧
    OwnX elRec 26 wr w1.heap.size (fun b => some b ≠ ve.ownBlock) vl rs ∧ OwnI wr w1.heap.size ve es ∧ Apart ve vl ∧ Below w1.heap.size w1 wr ∧
    recsOf fe 0 fs = (rs ++ (recsOf fe a (fs.drop k)).1, es ++ (recsOf fe a (fs.drop k)).2.1, (recsOf fe a (fs.drop k)).2.2)) (fun _ _ _ i _ => fs.length - (intOf i).toNat)
  case atStart => exact ⟨0, 0, [], [], by omega, rfl, rfl, by omega, rfl, rfl, OwnX.nil _ _ _ _ _, World.ownsRow_nil _ _ _ _, apart_nil _, Below.refl _ _, by simp⟩
  case round =>
    obtain ⟨k, a, rs, es, hk, rfl, rfl, ha, hrl, hel, hown, howe, hne, hbel, hq⟩ := hrel
    by_cases hlt : k < fs.length
    · obtain ⟨b, o, cc, A2, c2, hve, _, _, hx0, hx1, hu⟩ := frm_at (HS.out.below hbel (by decide)) hlt
      injection hve with hA hln hcc
      subst hA
      subst hcc
      clear hln
      have hxm : fs[k].body.length ≤ 400 := HM.out _ (List.getElem_mem _)
      have hd : fs.drop k = fs[k] :: fs.drop (k + 1) := List.drop_eq_getElem_cons hlt
      have HQ : Hid (recsOf fe 0 fs = (rs ++ (recsOf fe a (fs[k] :: fs.drop (k + 1))).1, es ++ (recsOf fe a (fs[k] :: fs.drop (k + 1))).2.1, (recsOf fe a (fs[k] :: fs.drop (k + 1))).2.2)) := by unfold Hid; rw [← hd]; exact hq
      have HU := Lib.hid hu
      clear hq hd hu
      generalize fs[k] = x at hx0 hx1 hxm HQ HU
      obtain ⟨kind, body⟩ := x
      have hxm : body.length ≤ 400 := hxm
      have hx0 : wr.cell? ⟨b, o + k * 2, none⟩ = some (.int .u8 kind.toNat) := hx0
      have hx1 : wr.cell? ⟨b, o + k * 2 + 1, none⟩ = some (.slice A2 body.length c2) := hx1
      have hbW : Below wr.heap.size wr (wr.alloc (.cells #[.int .u8 kind.toNat, .slice A2 body.length c2] 126)) := below_alloc (Below.refl _ _) _
      have hBx : Blk (wr.alloc (.cells #[.int .u8 kind.toNat, .slice A2 body.length c2] 126)) wr.heap.size [.int .u8 kind.toNat, .slice A2 body.length c2] 126 := Blk.new wr _ _
      have HBW := Lib.hid hbW
      have HBX := Lib.hid hBx
      have HU2 : Hid (Sl elU8 (wr.alloc (.cells #[.int .u8 kind.toNat, .slice A2 body.length c2] 126)) (fun b => w1.heap.size ≤ b ∨ True) (.slice A2 body.length c2) body) := (HU.out.below hbW Nat.one_pos).weak (fun _ _ _ => .inr trivial) Nat.one_pos
      have HHB := Lib.hid hbel
      clear hbW hBx hbel
      rcases hq1 : recRead ⟨kind, body⟩ with f | r
      · have hfn : ((f : Int) != 0) = true := by rcases recRead_err hq1 with rfl | rfl <;> rfl
        have hq2 : recsOf fe 0 fs = (rs, es, f) := by rw [HQ.out]; simp [recsOf, hq1]
        have HQ2 := Lib.hid hq2
        clear hq2
        go_wp2_with (go_at_call 81; have h := recordRead_any ⟨kind, body⟩ _ _ _ HU2.out; rw [hq1] at h; refine h.mono ?_; clear h; rintro e' w2 ⟨v2, rfl, hb2, rfl⟩)
        go_ret3
        have hf := below_alloc (below_step HBW.out hb2) (.cells #[.int .i64 0, .slice none 0 0, .string ⟨#[]⟩] 26)
        rw [HQ2.out]
        exact ⟨_, rfl, below_step (below_step hb1 HHB.out) hf, _, _, rfl, (hown.below hf).l.sl.weak (fun b hb _ => Nat.le_trans hb1.size hb) (by decide), Sl.weak (OwnI.sl (own_below howe hf)) (fun b hb _ => Nat.le_trans hb1.size hb) (by decide)⟩
      · have HR := recordRead_any ⟨kind, body⟩ _ _ _ HU2.out
        rw [hq1] at HR
        have HR2 := Lib.hid HR
        have hq2 : recsOf fe 0 fs = (rs ++ [r] ++ (recsOf fe (a + (11 + body.length)) (fs.drop (k + 1))).1, es ++ [a + (11 + body.length)] ++ (recsOf fe (a + (11 + body.length)) (fs.drop (k + 1))).2.1, (recsOf fe (a + (11 + body.length)) (fs.drop (k + 1))).2.2) := by rw [HQ.out]; simp [recsOf, hq1]
        have HQ2 := Lib.hid hq2
        have hfb : frmBytes ⟨kind, body⟩ = .ok (frmRaw ⟨kind, body⟩) := by unfold frmBytes; rw [if_neg (by omega)]
        have hrl2 : (frmRaw ⟨kind, body⟩).length = 11 + body.length := frmRaw_length _
        have HFB := Lib.hid hfb
        have HRL := Lib.hid hrl2
        have HOWN := Lib.hid hown
        have HOWE := Lib.hid howe
        clear hq2 HR HQ hfb hrl2 hown howe
        have ha9 : a ≤ 411000000000 := by omega
        go_wp2_with (first
          | (go_at_call 81; refine HR2.out.mono ?_; rintro e' w2 ⟨v2, rfl, hb2, u2, rfl, ho2⟩; simp only [strV]; obtain ⟨Ar, cr, hure, hcr1, hcr2, _⟩ := ho2.sl.one; subst hure; have hB2 := HBX.out.belowS hb2; have hx2 := hB2.at 0 _ rfl; have hx3 := hB2.at 1 _ rfl; have hlt2 := hB2.lt)
          | (go_at_call 63; refine (frameBytes_any kind _ body _ _ (by exact ((HU2.out.below hb2 Nat.one_pos).below (below_alloc (Below.refl _ _) _) Nat.one_pos)) (by omega)).mono ?_; rw [HFB.out]; rintro e' w4 ⟨v4, rfl, hb4, u4, rfl, ho4⟩; obtain ⟨A4, c4, hu4e, _, _, _⟩ := ho4.sl.one; subst hu4e;
              have hBr : Blk w4 w2.heap.size [.int .i64 r.kind, .slice Ar r.n.length cr, .string ⟨r.text.toArray⟩] 26 := (Blk.new w2 _ _).belowS hb4;
              have hr0 := hBr.at 0 _ rfl; have hr1 := hBr.at 1 _ rfl; have hr2 := hBr.at 2 _ rfl;
              have hf4 := below_step (below_alloc (below_step HBW.out hb2) _) hb4; have howe4 := own_below HOWE.out hf4; obtain ⟨css, hcl, hcR, hco⟩ := HOWN.out.below hf4; have hbz := hb1.size; have hbz2 := HHB.out.size; have hbz3 := hf4.size;
              have hfl4 : (frmRaw ⟨kind, body⟩).length ≤ 411 := by rw [HRL.out]; omega)
          | (at_builtin; refine app_cells w1.heap.size rfl (.tmp 48) (.tmp 50) 23 26 (.agg #[.int .i64 0, .slice none 0 0, .string ⟨#[]⟩]) 3 48 rfl Tryd.underlying23 infoRec rfl (by decide) u8 rs.length css.flatten [.int .i64 r.kind, .slice Ar r.n.length cr, .string ⟨r.text.toArray⟩] rfl (by show Value.slice _ _ _ = Value.slice _ _ _; simp) (by simp [Value.oneCell']) rfl hco (by omega) (by unfold maxLen; omega) (by omega) ?_;
              intro v5 w5 hown5 hg5 hlie5 hsh5; have howe5 := howe4.kept hg5 hne.ne; have hbz5 := hg5.size)
          | (at_builtin; refine app_cells w1.heap.size rfl (.tmp 52) (.tmp 54) 60 3 (.int .i64 0) 1 8 rfl Tryd.underlying60 infoInt rfl (by decide) u9 es.length (es.map fun n : Nat => Value.int .i64 n) [.int .i64 ((a : Int) + ((frmRaw ⟨kind, body⟩).length : Nat))] rfl (by show Value.slice _ _ _ = Value.slice _ _ _; simp) (by simp [Value.oneCell']) rfl howe5 (by omega) (by unfold maxLen; omega) (by omega) ?_;
              intro v6 w6 hown6 hg6 hlie6 hsh6))
        go_roundw
        case rel =>
          have hl9 := HOWN.out.lt
          have hl9e := HOWE.out.lt
          have hl5 := hown5.lt
          have hX5 : OwnX elRec 26 w5 w1.heap.size (fun b => some b ≠ u9.ownBlock) v5 (rs ++ [r]) := by
            refine OwnX.snoc (k := elRec) hcl hcR ?_ hown5 hg5 hlie5
            refine ⟨_, rfl, ((ho2.sl.below (below_alloc (Below.refl _ _) _) Nat.one_pos).below hb4 Nat.one_pos).weak (fun b hb _ => ?_) Nat.one_pos⟩
            have hbb : wr.heap.size < b := by have : (wr.alloc (.cells #[.int .u8 kind.toNat, .slice A2 body.length c2] 126)).heap.size ≤ b := hb; rw [size_al] at this; omega
            refine ⟨by omega, fun e => ?_, fun e => ?_⟩
            · have := (hl9 b e.symm).2; omega
            · have := (hl9e b e.symm).2; omega
          have hap5 : Apart u9 v5 := hne.lies hlie5 (fun b hb => by have := (hl9e b hb).2; omega)
          have hY5 : OwnX elRec 26 w5 w1.heap.size (fun b => some b ≠ u9.ownBlock ∧ some b ≠ v6.ownBlock) v5 (rs ++ [r]) := hX5.weakX fun b _ hb hlt => ⟨hb, fun e => by
            rcases hlie6 with e2 | ⟨c6, e2, hc6⟩
            · rw [e2] at e; exact hb e
            · rw [e2] at e; injection e with e; omega⟩
          have hY6 : OwnX elRec 26 w6 w1.heap.size (fun b => some b ≠ v6.ownBlock) v5 (rs ++ [r]) := (hY5.grown hg6 hap5.symm.ne (fun b hb => hb.1)).weakX fun b _ hb _ => hb.2
          have e6 : ((a : Int) + ((frmRaw ⟨kind, body⟩).length : Nat)) = ((a + (11 + body.length) : Nat) : Int) := by rw [HRL.out]; rfl
          rw [e6] at hown6
          have hap6 : Apart v6 v5 := (hap5.symm.lies hlie6 (fun b hb => (hl5 b hb).2)).symm
          refine ⟨k + 1, a + (11 + body.length), rs ++ [r], es ++ [a + (11 + body.length)], by omega, by go_num, ?_, by omega, by simp [hrl], by simp [hel], ?_, ?_, hap6, ?_, HQ2.out⟩
          · rw [HRL.out]; rfl
          · exact hY6
          · unfold OwnI
            rw [List.length_append, List.map_append]
            exact hown6
          · have h5 : Below w1.heap.size w1 w5 := below_own (below_step HHB.out hf4) (by omega) hco hg5
            exact below_own h5 (by omega) howe5 hg6
        case measure => simp [intOf]; omega
    · have hq2 : recsOf fe 0 fs = (rs, es, fe) := by
        have hd : fs.drop k = [] := List.drop_eq_nil_of_le (by omega)
        rw [hq, hd]
        simp [recsOf]
      have HQ := Lib.hid hq2
      clear hq hq2
      obtain rfl : k = fs.length := by omega
      go_wp2_with fail
      go_ret3
      rw [HQ.out]
      exact ⟨_, rfl, below_step hb1 hbel, _, _, rfl, hown.l.sl.weak (fun b hb _ => Nat.le_trans hb1.size hb) (by decide), Sl.weak howe.sl (fun b hb _ => Nat.le_trans hb1.size hb) (by decide)⟩

end Go.Proofs.YtocmnhjgknaocaaDoor
