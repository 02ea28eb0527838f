import Derived.Test.YtocmnhjgknaocaaDoorOwn
import Derived.WalkMore
set_option linter.unusedVariables false
set_option linter.unusedSimpArgs false
set_option maxRecDepth 100000
namespace Go.Proofs.YtocmnhjgknaocaaDoor
open Go.RowKit Tb

def elFrm : El Frm where
  sz := 2
  R := fun w ok x cs => ∃ u, cs = [.int .u8 x.kind.toNat, u] ∧ Sl elU8 w ok u x.body
  len := fun ⟨u, h, _⟩ => by rw [h]; rfl
  keep := fun ⟨u, h, hv⟩ hk => ⟨u, h, hv.keep hk Nat.one_pos⟩
  weak := fun ⟨u, h, hv⟩ hk => ⟨u, h, hv.weak hk Nat.one_pos⟩

def FrmAllPost (base : Nat) (q : List Frm × Nat × Int) (r : Value) (w' : World) : Prop :=
  ∃ u, r = .tuple #[u, .int .i64 q.2.1, .int .i64 q.2.2] ∧ OwnL elFrm 126 w' base u q.1

theorem infoFrame : (Tryd.prog.info? 126).map (fun i => (i.zero, i.size, i.bytes)) = some (some (.agg #[.int .u8 0, .slice none 0 0]), 2, 32) := by kernel_rfl
theorem frmRead_err {b : List UInt8} {e : Int} (h : frmRead b = .error e) : e = 2 ∨ e = 3 ∨ e = 8 := by
  unfold frmRead at h
  split at h
  · injection h with h; omega
  · split at h
    · injection h with h; omega
    · simp only at h
      split at h
      · injection h with h; omega
      · split at h
        · injection h with h; omega
        · split at h
          · injection h with h; omega
          · cases h
theorem sl_drop_at {α : Type} {enc : α → Value} {w : World} {ok : Nat → Prop} {A : Option Addr} {c : Nat} {xs : List α} (h : Sl (elOne enc) w ok (.slice A xs.length c) xs) {k : Nat} (hk : k < xs.length) :
    ∃ b o, A = some ⟨b, o, none⟩ ∧ Sl (elOne enc) w ok (.slice (some ⟨b, o + k, none⟩) (xs.length - k) (c - k)) (xs.drop k) := by
  have h0 := h
  obtain ⟨A2, c2, hve, _, _, hc⟩ := h0.one
  injection hve with hA _ hcc
  subst hA
  subst hcc
  obtain ⟨b, o, rfl, _, _⟩ := hc (by omega)
  exact ⟨b, o, rfl, Sl.drop h k (by omega)⟩

set_option maxHeartbeats 1600000 in
theorem frameAll_any (v : Value) (xs : List UInt8) (ok : Nat → Prop) (w : World) (hv : Sl elU8 w ok v xs) (hlen : xs.length ≤ 1000000000) :
    Calls Tryd.prog 80 #[v] w (RetB w (FrmAllPost w.heap.size (frmAll xs))) := by
  have hv0 := hv
  obtain ⟨A, c, rfl, hc1, hc2, hc⟩ := hv.one
  have HV := Lib.hid hv0
  have HLEN := Lib.hid hlen
  clear hv hv0 hlen hc
  go_enter Tryd.func80, Tryd.ntmps80
  go_wp2_with fail
  go_step3
  go_wp2_with fail
  go_step3
  go_wp2_with fail
  go_loopw [5, 6] (fun l i wr => ∃ (pre : List Frm) (k : Nat), k ≤ xs.length ∧ i = .int .i64 k ∧ OwnL elFrm 126 wr w.heap.size l pre ∧ pre.length ≤ k ∧ frmAll xs = (pre ++ (frmAll (xs.drop k)).1, k + (frmAll (xs.drop k)).2.1, (frmAll (xs.drop k)).2.2) ∧ Below w.heap.size w wr) (fun _ i _ => xs.length - (intOf i).toNat)
  case atStart => exact ⟨[], 0, by omega, rfl, OwnL.nil _ _ _ _, by simp, by simp, Below.refl _ _⟩
  case round =>
    obtain ⟨pre, k, hk, rfl, hown, hpl, hq, hbel⟩ := hrel
    by_cases hlt : k < xs.length
    · obtain ⟨b, o, rfl, hd⟩ := sl_drop_at (HV.out.below hbel Nat.one_pos) hlt
      have HD := Lib.hid hd
      have HDL : Hid ((xs.drop k).length ≤ 1000000000) := by have := HLEN.out; unfold Hid; rw [List.length_drop]; omega
      have HQ := Lib.hid hq
      have hi1 : (k : Int) < (c : Int) := by omega
      have hi2 : (xs.length : Int) ≤ (c : Int) := by omega
      have hne : xs.drop k ≠ [] := by intro e; have := congrArg List.length e; simp at this; omega
      have HE := Lib.hid (frmAll_eq (xs.drop k))
      have HNE := Lib.hid hne
      clear hd hq hne
      rcases hq1 : frmRead (xs.drop k) with e | ⟨x, n⟩
      · have hen : ((e : Int) != 0) = true := by rcases frmRead_err hq1 with rfl | rfl | rfl <;> rfl
        go_wp2_with (go_at_call 95; refine (frameRead_any _ (xs.drop k) ok _ (by exact HD.out) HDL.out).mono ?_; rw [hq1]; rintro e w1 ⟨v1, rfl, hb1, rfl⟩)
        rw [Exit.noGoto_ret]
        go_ret3
        have hF : frmAll xs = (pre, k, e) := by
          rw [HQ.out, HE.out, if_neg HNE.out, hq1]
          simp
        rw [hF]
        exact ⟨_, rfl, below_alloc (below_step hbel hb1) _, _, rfl, (hown.below hb1).below (below_alloc (Below.refl _ _) _)⟩
      · have hu := frmRead_used hq1
        have hkn : k + n ≤ 1000000000 := by have := HLEN.out; have := hu.2; rw [List.length_drop] at this; omega
        have hkn2 : k + n ≤ xs.length := by have := hu.2; rw [List.length_drop] at this; omega
        have hn0 : 11 ≤ n := hu.1
        clear hu
        go_wp2_with (first
          | (go_at_call 95; refine (frameRead_any _ (xs.drop k) ok _ (by exact HD.out) HDL.out).mono ?_; rw [hq1]; rintro e w1 ⟨v1, rfl, hb1, u1, rfl, ho1⟩; obtain ⟨A1, k1, rfl, _, _, _⟩ := ho1.sl.one; obtain ⟨css, hcl, hcR, hco⟩ := hown.below hb1; have hbel1 := below_step hbel hb1)
          | (at_builtin; go_loud (refine app_cells w.heap.size rfl (.tmp 27) (.tmp 29) 143 126 _ 2 32 rfl Tryd.underlying143 infoFrame rfl (by decide) _ pre.length css.flatten [.int .u8 x.kind.toNat, .slice A1 x.body.length k1] rfl (by show Value.slice _ _ _ = Value.slice _ _ _; simp) (by simp [Value.oneCell']) rfl (hco.alloc _) (by have := hbel1.size; simp; omega) (by have := HLEN.out; unfold maxLen; omega) (by have := HLEN.out; omega) ?_); intro v2 w2 hown2 hg2 hlie2 hsh2))
        go_roundw
        case rel =>
          refine ⟨pre ++ [x], k + n, hkn2, by go_num, ?_, by simp; omega, ?_, ?_⟩
          · refine OwnL.snoc (k := elFrm) hcl ?_ ?_ hown2 hg2 hlie2
            · exact fun j h h2 => elFrm.keep (hcR j h h2) (fun b _ hlt => Below.heap_alloc w1 _ b hlt)
            · exact ⟨_, rfl, (ho1.sl.below (below_alloc (Below.refl _ _) _) Nat.one_pos).weak (fun b hb _ => (hown.ne hb).resolve_right (by have := hbel.size; omega)) Nat.one_pos⟩
          · rw [HQ.out, HE.out, if_neg HNE.out, hq1]
            simp [Nat.add_assoc]
          · exact below_own (below_alloc hbel1 _) (by have := hbel1.size; simp; omega) (hco.alloc _) hg2
        case measure => simp [intOf]; omega
    · have hF : frmAll xs = (pre, k, 0) := by
        have hd0 : xs.drop k = [] := List.drop_eq_nil_of_le (by omega)
        rw [hq, hd0]
        simp [frmAll, frmAllN]
      have HF := Lib.hid hF
      clear hF hq
      obtain rfl : k = xs.length := by omega
      go_wp2_with fail
      rw [Exit.noGoto_ret]
      go_ret3
      rw [HF.out]
      exact ⟨_, rfl, hbel, _, rfl, hown⟩

end Go.Proofs.YtocmnhjgknaocaaDoor
