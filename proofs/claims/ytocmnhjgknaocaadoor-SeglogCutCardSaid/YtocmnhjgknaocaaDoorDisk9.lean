import Derived.Test.YtocmnhjgknaocaaDoorDisk8
import Derived.Test.YtocmnhjgknaocaaDoorReg
set_option linter.unusedVariables false
set_option linter.unusedSimpArgs false
set_option maxRecDepth 100000
namespace Go.Proofs.YtocmnhjgknaocaaDoor
open Go.RowKit Tb
open Go.ChangeMaps (setBlock)

/-! ### what is held -/
def PDisk.dirs (s : PDisk) : List Dir := s.sure :: s.steps
def PDisk.reach (s : PDisk) (i : Nat) : Bool := s.dirs.any fun d => d.any fun p => p.2 == i
def PDisk.len (s : PDisk) (i : Nat) : Nat := (s.file i).b.length
def sumLen (s : PDisk) (l : List Nat) : Nat := (l.map s.len).sum
def PDisk.held (s : PDisk) : Nat := sumLen s (s.ids.filter s.reach)
theorem reach_iff {s : PDisk} {i : Nat} : s.reach i = true ↔ ∃ d ∈ s.dirs, ∃ p ∈ d, p.2 = i := by simp [PDisk.reach]
theorem sumLen_le {s : PDisk} : ∀ {l : List Nat}, (∀ i ∈ l, s.len i ≤ 1048576) → sumLen s l ≤ l.length * 1048576
  | [], _ => by simp [sumLen]
  | i :: l, h => by
    have h1 := h i (by simp)
    have h2 := sumLen_le (s := s) (l := l) fun j hj => h j (by simp [hj])
    unfold sumLen at *
    rw [List.map_cons, List.sum_cons, List.length_cons]
    omega
theorem sumLen_snoc (s : PDisk) (l : List Nat) (i : Nat) : sumLen s (l ++ [i]) = sumLen s l + s.len i := by
  unfold sumLen
  rw [List.map_append, List.sum_append]
  simp
theorem sub_len {l m : List Nat} (hl : l.Nodup) (hm : m.Nodup) (h : ∀ i ∈ l, i ∈ m) : l.length ≤ m.length := by
  have hp : (m.filter fun i => decide (i ∈ l)).Perm l := (List.perm_ext_iff_of_nodup (hm.filter _) hl).2 fun i => by
    rw [List.mem_filter, decide_eq_true_eq]
    exact ⟨fun h => h.2, fun hi => ⟨h i hi, hi⟩⟩
  rw [← hp.length_eq]
  exact List.length_filter_le _ _
/-- The files that were met. -/
def Seen (s : PDisk) (ds : List Dir) (sl : List Nat) : Prop := sl.Nodup ∧ (∀ i ∈ sl, i ∈ s.ids ∧ s.reach i = true) ∧ ∀ d ∈ ds, ∀ p ∈ d, p.2 ∈ sl
theorem Seen.sum {s : PDisk} {sl : List Nat} (h : Seen s s.dirs sl) (hn : s.ids.Nodup) : sumLen s sl = s.held := by
  unfold PDisk.held sumLen
  refine List.Perm.sum_nat (List.Perm.map _ ((List.perm_ext_iff_of_nodup h.1 (hn.filter _)).2 fun i => ?_))
  rw [List.mem_filter]
  refine ⟨fun hi => h.2.1 i hi, fun hi => ?_⟩
  obtain ⟨d, hd, p, hp, rfl⟩ := reach_iff.1 hi.2
  exact h.2.2 d hd p hp

theorem DiskAt.mapAt {F : Nat → Prop} {w : World} {D : Nat} {s : PDisk} {mS : Nat} {mT : List Nat} {vT : Value} {bv : Nat → Value} (h : DiskAt F w D s mS mT vT bv) : ∀ k (h1 : k < (mS :: mT).length) (h2 : k < s.dirs.length), MapIs w (mS :: mT)[k] s.dirs[k]
  | 0, _, _ => h.mapS
  | k + 1, h1, h2 => h.mapT k (by simpa using h1) (by simpa [PDisk.dirs] using h2)
theorem DiskAt.inDirs {F : Nat → Prop} {w : World} {D : Nat} {s : PDisk} {mS : Nat} {mT : List Nat} {vT : Value} {bv : Nat → Value} (h : DiskAt F w D s mS mT vT bv) : ∀ d ∈ s.dirs, ∀ p ∈ d, p.2 ∈ s.ids := by
  intro d hd
  rcases List.mem_cons.1 hd with rfl | hd
  · exact h.inS
  · exact h.inT d hd

abbrev mapV : Nat → Value := fun m => .map (some m)
def OwnP (w : World) (base : Nat) (v : Value) (sl : List Nat) : Prop := w.ownsRow base 130 1 v sl.length (sl.map ptrV)
theorem OwnP.sl {w : World} {base : Nat} {v : Value} {sl : List Nat} (h : OwnP w base v sl) : Sl elPtr w (fun b => base ≤ b) v sl := (own_sl h).1

set_option maxHeartbeats 3200000 in
theorem held_any {F : Nat → Prop} {w : World} {D : Nat} {s : PDisk} {mS : Nat} {mT : List Nat} {vT : Value} {bv : Nat → Value} (h : DiskAt F w D s mS mT vT bv) :
    Calls Tryd.prog 69 #[ptrV D] w (RetB w fun v _ => v = .int .i64 s.held) := by
  have c1 := h.blk.at 1 _ rfl
  have c2 := h.blk.at 2 _ rfl
  have hlenT := h.lenT
  have hlong := h.long
  rw [← hlenT] at hlong
  have HH := Lib.hid h
  have HLT := Lib.hid hlenT
  clear h hlenT
  unfold ptrV
  go_enter Tryd.func69, Tryd.ntmps69
  go_wp2_with fail
  refine reg_start (fun w' => w'.cell? ⟨D, 1, none⟩ = some (.map (some mS)) ∧ w'.cell? ⟨D, 2, none⟩ = some vT) (by kernel_rfl) ?_ (fun hHeld => ?_)
  · first | exact ⟨c1, c2⟩ | (dsimp only; go_keep)
  refine reg_take (v := ?v1) 0 rfl (by kernel_rfl) (by kernel_rfl) (by kernel_rfl) (by rfl) ?hy1 (by assumption) ?_
  case hy1 => (intro w hSw; (try dsimp only at hSw); go_simp; try with_reducible rfl)
  try simp only [Act.put, List.setIfInBounds_toArray, List.set_cons_zero, List.set_cons_succ]
  refine reg_take (v := ?v2) 1 rfl (by kernel_rfl) (by kernel_rfl) (by kernel_rfl) (by rfl) ?hy2 (by assumption) ?_
  case hy2 => (intro w hSw; (try dsimp only at hSw); go_simp; try with_reducible rfl)
  try simp only [Act.put, List.setIfInBounds_toArray, List.set_cons_zero, List.set_cons_succ]
  refine reg_take (v := ?v3) 2 rfl (by kernel_rfl) (by kernel_rfl) (by kernel_rfl) (by rfl) ?hy3 (by assumption) ?_
  case hy3 => (intro w hSw; (try dsimp only at hSw); go_simp; try with_reducible rfl)
  try simp only [Act.put, List.setIfInBounds_toArray, List.set_cons_zero, List.set_cons_succ]
  refine reg_take (v := ?v4) 3 rfl (by kernel_rfl) (by kernel_rfl) (by kernel_rfl) (by rfl) ?hy4 (by assumption) ?_
  case hy4 => (intro w hSw; (try dsimp only at hSw); go_simp; try with_reducible rfl)
  try simp only [Act.put, List.setIfInBounds_toArray, List.set_cons_zero, List.set_cons_succ]
  refine reg_take (v := ?v5) 5 rfl (by kernel_rfl) (by kernel_rfl) (by kernel_rfl) (by rfl) ?hy5 (by assumption) ?_
  case hy5 => (intro w hSw; (try dsimp only at hSw); go_simp; try with_reducible rfl)
  try simp only [Act.put, List.setIfInBounds_toArray, List.set_cons_zero, List.set_cons_succ]
  refine reg_take (v := ?v6) 6 rfl (by kernel_rfl) (by kernel_rfl) (by kernel_rfl) (by rfl) ?hy6 (by assumption) ?_
  case hy6 => (intro w hSw; (try dsimp only at hSw); go_simp; try with_reducible rfl)
  try simp only [Act.put, List.setIfInBounds_toArray, List.set_cons_zero, List.set_cons_succ]
  refine reg_take (v := ?v7) 7 rfl (by kernel_rfl) (by kernel_rfl) (by kernel_rfl) (by rfl) ?hy7 (by assumption) ?_
  case hy7 => (intro w hSw; (try dsimp only at hSw); go_simp; try with_reducible rfl)
  try simp only [Act.put, List.setIfInBounds_toArray, List.set_cons_zero, List.set_cons_succ]
  refine reg_take (v := ?v8) 8 rfl (by kernel_rfl) (by kernel_rfl) (by kernel_rfl) (by rfl) ?hy8 (by assumption) ?_
  case hy8 => (intro w hSw; (try dsimp only at hSw); go_simp; try with_reducible rfl)
  try simp only [Act.put, List.setIfInBounds_toArray, List.set_cons_zero, List.set_cons_succ]
  refine reg_take (v := ?v9) 11 rfl (by kernel_rfl) (by kernel_rfl) (by kernel_rfl) (by rfl) ?hy9 (by assumption) ?_
  case hy9 => (intro w hSw; (try dsimp only at hSw); go_simp; try with_reducible rfl)
  try simp only [Act.put, List.setIfInBounds_toArray, List.set_cons_zero, List.set_cons_succ]
  refine reg_one 4 rfl (by kernel_rfl) (fun K hK => ?_)
  go_simp
  have hbel0 : Below w.heap.size w (w.drew.alloc (.cells #[.map (some mS)] 108)) := below_of_drew (below_alloc (Below.refl _ _) _)
  have HO : (w.drew.alloc (.cells #[.map (some mS)] 108)).ownsRow w.heap.size 108 1 (.slice (some ⟨w.heap.size, 0, none⟩) 1 1) 1 [.map (some mS)] := World.ownsRow_lit (base := w.heap.size) (e := 108) (size := 1) w.drew #[.map (some mS)] 1 (Nat.le_refl _) (by simp [maxLen]) (by simp)
  have HR : Sl (elOne mapV) (w.drew.alloc (.cells #[.map (some mS)] 108)) (fun _ => True) vT mT := (own_slW (enc := mapV) (ok := fun _ => True) HH.out.rowT fun _ _ => trivial).below hbel0 Nat.one_pos
  refine hK.out _ _ ?_ (fun hHeld => ?_)
  · first | exact ⟨cell_below hbel0 c1, cell_below hbel0 c2⟩ | (dsimp only; go_keep)
  clear hK K
  try simp only [Act.put, List.setIfInBounds_toArray, List.set_cons_zero, List.set_cons_succ]
  refine reg_one 9 rfl (by kernel_rfl) (fun K hK => ?_)
  refine step_app_row (enc := mapV) (fun _ => rfl) w.heap.size rfl (.tmp 13) (.tmp 17) 109 108 (.map none) 8 rfl Tryd.underlying109 infoDir rfl (.slice (some ⟨w.heap.size, 0, none⟩) 1 1) [mS] mT vT (fun _ => True) rfl rfl HO HR hbel0.size (by simp [maxLen]; omega) (by simp; omega) ?_
  intro v1 w1 hown1 hg1 hlie1
  have hbel1 : Below w.heap.size w w1 := below_own hbel0 hbel0.size HO hg1
  have hsl1 : Sl (elOne mapV) w1 (fun b => w.heap.size ≤ b) v1 (mS :: mT) := (own_sl hown1).1
  obtain ⟨A1, k1, hv1, hk1, hk2, hx1⟩ := hsl1.one
  subst hv1
  clear hx1
  have m1 := cell_below hbel1 c1
  have m2 := cell_below hbel1 c2
  refine hK.out _ _ ?_ (fun hHeld => ?_)
  · first | exact ⟨m1, m2⟩ | (dsimp only; go_keep)
  clear hK K
  try simp only [Act.put, List.setIfInBounds_toArray, List.set_cons_zero, List.set_cons_succ]
  obtain ⟨N, hN⟩ : ∃ N, N = (mS :: mT).length := ⟨_, rfl⟩
  rw [← hN]
  have hN2 : N ≤ 1000000001 := by rw [hN, List.length_cons]; omega
  have HN : Hid (N = (mS :: mT).length ∧ N = s.dirs.length) := ⟨hN, by rw [hN]; simp [PDisk.dirs, HLT.out]⟩
  clear hN
  refine reg_take (v := ?v10) 10 rfl (by kernel_rfl) (by kernel_rfl) (by kernel_rfl) (by rfl) ?hy10 (by assumption) ?_
  case hy10 => (intro w hSw; (try dsimp only at hSw); go_simp; try with_reducible rfl)
  try simp only [Act.put, List.setIfInBounds_toArray, List.set_cons_zero, List.set_cons_succ]
  refine reg_done (by kernel_rfl) ?_
  have HSL := Lib.hid hsl1
  have HB1 := Lib.hid hbel1
  have HD1 := Lib.hid (HH.out.below hbel1)
  clear hHeld HO HR hbel0 hown1 hg1 hlie1 hsl1 hbel1 m1 m2 c1 c2
  go_wp2_with fail
  go_loopw [3, 4, 20] (fun v n i wr => ∃ (k : Nat) (sl : List Nat), k ≤ N ∧ i = .int .i64 k ∧ n = .int .i64 (sumLen s sl) ∧ OwnP wr w1.heap.size v sl ∧ Seen s (s.dirs.take k) sl ∧ Below w1.heap.size w1 wr) (fun _ _ i _ => N - (intOf i).toNat)
  case atStart => exact ⟨0, [], by omega, rfl, rfl, World.ownsRow_nil _ _ _ _, ⟨List.nodup_nil, (fun i h => by cases h), (fun d h => by simp at h)⟩, Below.refl _ _⟩
  case round =>
    obtain ⟨k, sl, hk, rfl, rfl, hown, hseen, hbel⟩ := hrel
    by_cases hlt : k < N
    · obtain ⟨wo, rfl⟩ : ∃ wo : World, wo = wr := ⟨_, rfl⟩
      obtain ⟨A2, k2, hve, hxa, hxb, hc⟩ := (HSL.out.below hbel Nat.one_pos).one
      injection hve with hA hln hcc
      subst hA
      obtain ⟨b, o, rfl, hob, hcell⟩ := hc (by rw [← HN.out.1]; omega)
      have hck0 := hcell k (by rw [← HN.out.1]; exact hlt)
      have hM0 := HD1.out.mapAt k (by rw [← HN.out.1]; exact hlt) (by rw [← HN.out.2]; exact hlt)
      have hM := hM0.keep (hbel.block _ hM0.lt)
      have hin0 := HD1.out.inDirs (s.dirs[k]'(by rw [← HN.out.2]; exact hlt)) (List.getElem_mem _)
      have HTK : Hid (s.dirs.take (k + 1) = s.dirs.take k ++ [s.dirs[k]'(by rw [← HN.out.2]; exact hlt)]) := List.take_succ_eq_append_getElem _
      have HMEM : Hid (s.dirs[k]'(by rw [← HN.out.2]; exact hlt) ∈ s.dirs) := List.getElem_mem _
      clear hcell hc hM0 hln hcc hxa hxb
      generalize (mS :: mT)[k]'_ = m at hck0 hM
      generalize s.dirs[k]'_ = d at hM hin0 HTK HMEM
      have hck : wo.cell? ⟨b, o + k, none⟩ = some (.map (some m)) := hck0
      have HIN := Lib.hid hin0
      have HOWN := Lib.hid hown
      have HSEEN := Lib.hid hseen
      have HBEL := Lib.hid hbel
      clear hck0 hin0 hown hseen hbel
      have hi1 : (k : Int) < (N : Int) := by omega
      have hmlt := hM.lt
      go_wp2_with (at_range; refine wpList_range_dir rfl _ rfl rfl hM ?_; intro w3 hr3 hb3 hs3)
      go_frame
      have HR3 := Lib.hid hr3
      have HB3 := Lib.hid hb3
      have HS3 := Lib.hid hs3
      clear hr3 hb3 hs3 hM
      go_loopw [3, 4] (fun v n wr => ∃ (sl : List Nat) (left : Dir), n = .int .i64 (sumLen s sl) ∧ OwnP wr w1.heap.size v sl ∧ Seen s (s.dirs.take k) sl ∧ (∀ p ∈ d, p ∈ left ∨ p.2 ∈ sl) ∧ (∀ p ∈ left, p ∈ d) ∧ Ranges wr m wo.heap.size d left ∧ Below w1.heap.size w1 wr) (fun _ _ wr => wr.rangeLeft m wo.heap.size)
      case atStart => exact ⟨sl, d, rfl, own_below HOWN.out HB3.out, HSEEN.out, fun p hp => .inl hp, fun p hp => hp, HR3.out, below_step HBEL.out HB3.out⟩
      case round =>
        clear HR3 HB3 HS3 HOWN HSEEN
        obtain ⟨sl, left, rfl, hown, hseen, hcov, hsub, hrg, hbel⟩ := hrel
        have HOWN := Lib.hid hown
        have HSEEN := Lib.hid hseen
        have HCOV := Lib.hid hcov
        have HSUB := Lib.hid hsub
        have HRG := Lib.hid hrg
        have HBL := Lib.hid hbel
        clear hown hseen hcov hsub hrg hbel
        go_wp2_with (at_next; refine wpList_next_dir rfl _ rfl rfl HRG.out ?_ ?_)
        · intro hnil
          have HNIL := Lib.hid hnil
          clear hnil
          go_wp2_with fail
          go_roundw
          case rel =>
            refine ⟨k + 1, sl, by omega, by go_num, rfl, HOWN.out, ⟨HSEEN.out.1, HSEEN.out.2.1, ?_⟩, HBL.out⟩
            rw [HTK.out]
            intro d' hd' p hp
            rcases List.mem_append.1 hd' with hd' | hd'
            · exact HSEEN.out.2.2 d' hd' p hp
            · rw [List.mem_singleton] at hd'
              subst hd'
              rcases HCOV.out p hp with h | h
              · rw [HNIL.out] at h; cases h
              · exact h
          case measure => simp [intOf]; omega
        · intro pn pf left' w4 hnx hrg4 hg4 hs4 hen
          have HNX := Lib.hid hnx
          have HG4 := Lib.hid hg4
          have HS4 := Lib.hid hs4
          have HRG4 := Lib.hid hrg4
          have hpd := HSUB.out _ hnx.1
          have hpi := HIN.out _ hpd
          have HPD := Lib.hid hpd
          have hbel4 : Below w1.heap.size w1 w4 := HBL.out.grown hg4 HBL.out.size (fun j hj => by injection hj with hj; have := HBEL.out.size; omega)
          have hown4 : OwnP w4 w1.heap.size _ sl := HOWN.out.kept hg4 (by
            have hne := (HRG.out.own_ne HOWN.out).1
            rcases hx : Value.ownBlock _ with _ | b
            · exact .inl rfl
            · exact .inr fun e => hne (by rw [hx]; exact e.symm))
          have hbw : Below w.heap.size w w4 := below_step HB1.out hbel4
          have hB4 : ∀ i, i ∈ pf :: sl → ∃ cs, Blk w4 i cs 129 := fun i hi => by
            have hi2 : i ∈ s.ids := by
              rcases List.mem_cons.1 hi with rfl | hi
              · exact hpi
              · exact (HSEEN.out.2.1 i hi).1
            exact ⟨_, (HH.out.fileI i hi2).belowS hbw⟩
          obtain ⟨Af, cf, hbv, hcf1, hcf2, hxf⟩ := (OwnB.sl (HH.out.rowI pf hpi)).one
          have HFC : Hid (∀ W, Below w1.heap.size w1 W → W.cell? ⟨pf, 0, none⟩ = some (.slice Af (s.file pf).b.length cf)) := fun W hW => by
            have h := ((HH.out.fileI pf hpi).belowS (below_step HB1.out hW)).at 0 _ rfl
            rwa [hbv] at h
          have hlen8 : (s.file pf).b.length ≤ 1048576 := (HH.out.bytes pf hpi).1
          have hle9 : sl.length ≤ s.ids.length := sub_len HSEEN.out.1 HH.out.nodup fun i hi => (HSEEN.out.2.1 i hi).1
          have hmany := HH.out.many
          have hsum : sumLen s sl ≤ 1048576000000000 := Nat.le_trans (sumLen_le fun i hi => (HH.out.bytes i (HSEEN.out.2.1 i hi).1).1) (by omega)
          have HCT := Lib.hid (contains_file_any _ sl pf _ w4 hown4.sl hB4)
          have HB4 := Lib.hid hbel4
          have HO4 := Lib.hid hown4
          have hsl9 : sl.length ≤ 1000000000 := by omega
          have HPI := Lib.hid hpi
          have hfb := HFC.out _ hbel4
          clear hg4 hs4 hnx hrg4 hpd hbel4 hown4 hbw hB4 hxf hbv hle9 hmany hpi
          simp only [strV, ptrV] at hen ⊢
          by_cases hin : pf ∈ sl
          · rw [decide_eq_true hin] at HCT
            have HX := Lib.hid hin
            clear hin
            go_wp2_with (go_at_call 87; refine HCT.out.mono ?_; rintro e w5 ⟨rfl, rfl⟩)
            go_roundw
            case rel =>
              refine ⟨sl, left', rfl, HO4.out, HSEEN.out, fun p hp => ?_, fun p hp => HSUB.out p (HNX.out.2.2.1 p hp), HRG4.out, HB4.out⟩
              rcases HCOV.out p hp with h | h
              · rcases HNX.out.2.2.2 p h with rfl | h
                · exact .inr HX.out
                · exact .inl h
              · exact .inr h
            case measure => rw [HRG4.out.left_eq, HRG.out.left_eq]; exact HNX.out.2.1
          · rw [decide_eq_false hin] at HCT
            have HX := Lib.hid hin
            clear hin
            go_wp2_with (first
              | (go_at_call 87; refine HCT.out.mono ?_; rintro e w5 ⟨rfl, rfl⟩)
              | (at_builtin; refine app_cells w1.heap.size rfl (.tmp 34) (.tmp 36) 152 130 (.pointer none) 1 8 rfl Tryd.underlying152 infoPtr rfl (by decide) _ sl.length (sl.map ptrV) [.pointer (some ⟨pf, 0, none⟩)] rfl (by show Value.slice _ _ _ = Value.slice _ _ _; simp) (by simp [Value.oneCell']) rfl HO4.out HB4.out.size (by unfold maxLen; omega) (by omega) ?_; intro v6 w6 hown6 hg6 hlie6 hsh6; have hbel6 := below_own HB4.out HB4.out.size HO4.out hg6; have hfc := HFC.out _ hbel6; have HG6 := Lib.hid hg6; have HO6 := Lib.hid hown6; have HB6 := Lib.hid hbel6; clear hg6 hown6 hbel6 hlie6 hsh6))
            go_roundw
            case rel =>
              have hr6 : Ranges w6 m wo.heap.size d left' := by
                have hne := HRG4.out.own_ne HO4.out
                exact HRG4.out.keep (HG6.out.block _ HRG4.out.ltb hne.2) (HG6.out.block _ HRG4.out.lt hne.1)
              refine ⟨sl ++ [pf], left', ?_, ?_, ⟨?_, ?_, ?_⟩, fun p hp => ?_, fun p hp => HSUB.out p (HNX.out.2.2.1 p hp), hr6, HB6.out⟩
              · rw [sumLen_snoc]; go_num
              · unfold OwnP
                rw [List.length_append, List.map_append]
                exact HO6.out
              · exact nodup_snoc HSEEN.out.1 HX.out
              · intro i hi
                rcases List.mem_append.1 hi with hi | hi
                · exact HSEEN.out.2.1 i hi
                · rw [List.mem_singleton] at hi
                  subst hi
                  exact ⟨HPI.out, reach_iff.2 ⟨d, HMEM.out, _, HPD.out, rfl⟩⟩
              · exact fun d' hd' p hp => List.mem_append_left _ (HSEEN.out.2.2 d' hd' p hp)
              · rcases HCOV.out p hp with h | h
                · rcases HNX.out.2.2.2 p h with rfl | h
                  · exact .inr (List.mem_append_right _ (List.mem_singleton.2 rfl))
                  · exact .inl h
                · exact .inr (List.mem_append_left _ h)
            case measure =>
              have hr6 : Ranges w6 m wo.heap.size d left' := by
                have hne := HRG4.out.own_ne HO4.out
                exact HRG4.out.keep (HG6.out.block _ HRG4.out.ltb hne.2) (HG6.out.block _ HRG4.out.lt hne.1)
              rw [hr6.left_eq, HRG.out.left_eq]
              exact HNX.out.2.1
    · have HE : Hid (sumLen s sl = s.held) := by
        unfold Hid
        rw [List.take_of_length_le (by rw [← HN.out.2]; omega)] at hseen
        exact hseen.sum HH.out.nodup
      have HBEL := Lib.hid hbel
      clear hseen hown hbel
      obtain rfl : k = N := by omega
      go_wp2_with fail
      go_ret
      rw [HE.out]
      exact ⟨_, rfl, below_step HB1.out HBEL.out, rfl⟩

end Go.Proofs.YtocmnhjgknaocaaDoor
