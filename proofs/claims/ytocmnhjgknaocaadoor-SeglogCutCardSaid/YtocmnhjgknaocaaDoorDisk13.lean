import Derived.Test.YtocmnhjgknaocaaDoorDisk11
import Derived.RegionTactic
import Derived.BigRegion
set_option linter.unusedVariables false
set_option linter.unusedSimpArgs false
set_option maxRecDepth 100000
namespace Go.Proofs.YtocmnhjgknaocaaDoor
open Go.RowKit Tb
open Go.ChangeMaps (setBlock)

theorem Kept.mono {F G : Nat → Prop} {w w' : World} (h : Kept F w w') (hFG : ∀ x, F x → G x) : Kept G w w' := ⟨h.os, h.tape, h.output, h.size, fun x hx hn => h.block x hx fun hf => hn (hFG x hf)⟩
section
variable {F : Nat → Prop} {w : World} {D : Nat} {s : PDisk} {mS : Nat} {mT : List Nat} {vT : Value} {bv : Nat → Value}
/-- The directory that is sure has turned, and no other is told. -/
theorem DiskAt.reroot {w' : World} {s' : PDisk} {mS' : Nat} (h : DiskAt F w D s mS mT vT bv) (hk : ∀ b, b ≠ D → b < w.heap.size → w'.heap[b]? = w.heap[b]?) (e3 : s'.ids = s.ids) (e4 : s'.file = s.file) (e5 : s'.room = s.room) (e2 : s'.steps = [])
    (hm : MapIs w mS' s'.sure) (hF : F mS') (hin : ∀ p ∈ s'.sure, p.2 ∈ s.ids) (hB : Blk w' D [.int .i64 s'.room, .map (some mS'), .slice none 0 0, .int .i64 s'.fuse, .bool s'.down] 111) (hf : -1 ≤ s'.fuse ∧ s'.fuse ≤ 9223372036854775807) :
    DiskAt F w' D s' mS' [] (.slice none 0 0) bv where
  fD := h.fD
  blk := hB
  fS := hF
  mapS := hm.keep (hk _ (hm.cells h.blk) hm.lt)
  lenT := by rw [e2]; rfl
  fT := fun m hm => by cases hm
  mapT := fun j h1 _ => absurd h1 (by simp)
  rowT := World.ownsRow_nil _ _ _ _
  fR := fun b hb => by cases hb
  nodup := by rw [e3]; exact h.nodup
  fI := by rw [e3]; exact h.fI
  fileI := fun i hi => by
    rw [e3] at hi
    rw [e4]
    have hb := h.fileI i hi
    exact (hk i (blk_ne hb h.blk (by decide)) hb.lt).trans hb
  rowI := fun i hi => by
    rw [e3] at hi
    rw [e4]
    have hr := h.rowI i hi
    exact own_at hr fun b hb => hk b (own_ne h.blk hr (by decide) hb) (World.ownsRow.lt hr b hb).2
  fB := by rw [e3]; exact h.fB
  apart := by rw [e3]; exact h.apart
  inS := by rw [e3]; exact hin
  inT := fun d hd => by rw [e2] at hd; cases hd
  fuse := hf
  room := by rw [e5]; exact h.room
  long := by rw [e2]; simp
  many := by rw [e3]; exact h.many
  bytes := by rw [e3, e4]; exact h.bytes
end

/-! ### Read -/
def PDisk.read (s : PDisk) (n : List UInt8) : Except Int (List UInt8) := if s.down then .error 7 else match dirGet s.now n with | none => .error 5 | some i => .ok (s.file i).b

set_option maxHeartbeats 800000 in
theorem dread_any {F : Nat → Prop} {w : World} {D : Nat} {s : PDisk} {mS : Nat} {mT : List Nat} {vT : Value} {bv : Nat → Value} (h : DiskAt F w D s mS mT vT bv) (n : List UInt8) :
    Calls Tryd.prog 29 #[ptrV D, strV n] w (RetB w (ResB w.heap.size (s.read n))) := by
  have HTH := Lib.hid (there_any h n)
  have HNW := Lib.hid (now_any h)
  have hlk := run_lookup_dir h.mapNow n
  have c4 := h.blk.at 4 _ rfl
  have HH := Lib.hid h
  clear h
  unfold ptrV strV at *
  rcases hd : s.down with _ | _
  · rw [hd] at c4
    rcases there_cases s n with ⟨hg, ht⟩ | ⟨i, hg, ht⟩
    · have hq : s.read n = .error 5 := by unfold PDisk.read; rw [hd, hg]; rfl
      rw [hq]
      rw [ht] at HTH
      clear hq hg ht hd hlk
      go_enter Tryd.func29, Tryd.ntmps29
      go_wp2_with (go_at_call 65; refine HTH.out.mono ?_; rintro e w1 ⟨rfl, rfl⟩)
      go_ret2
      exact ⟨_, rfl, Below.refl _ _, rfl⟩
    · have hq : s.read n = .ok (s.file i).b := by unfold PDisk.read; rw [hd, hg]; rfl
      rw [hq]
      rw [ht] at HTH
      rw [hg] at hlk
      have hi : i ∈ s.ids := HH.out.inNow _ (dirGet_mem hg)
      have hB := (HH.out.fileI i hi).at 0 _ rfl
      have hR := HH.out.rowI i hi
      obtain ⟨Af, cf, hbv, hcf1, hcf2, hxf⟩ := (OwnB.sl hR).one
      rw [hbv] at hB hR
      have HCL := Lib.hid (cloneB_any _ _ _ w (OwnB.sl hR) (Nat.le_trans (HH.out.bytes i hi).1 (by decide)))
      clear hq hg ht hd hi hR hbv hxf
      simp only at hlk
      go_enter Tryd.func29, Tryd.ntmps29
      go_wp2_with (first
        | (go_at_call 65; refine HTH.out.mono ?_; rintro e w1 ⟨rfl, rfl⟩)
        | (go_at_call 67; refine HNW.out.mono ?_; rintro e w1 ⟨rfl, rfl⟩)
        | (go_at_call 66; refine HCL.out.mono ?_; rintro e w1 ⟨v1, rfl, hb1, ho1⟩))
      go_ret2
      exact ⟨_, rfl, hb1, _, rfl, ho1⟩
  · have hq : s.read n = .error 7 := by unfold PDisk.read; rw [hd]; rfl
    rw [hq]
    rw [hd] at c4
    clear hq hd hlk
    go_enter Tryd.func29, Tryd.ntmps29
    go_wp2_with fail
    go_ret2
    exact ⟨_, rfl, Below.refl _ _, rfl⟩

/-! ### Sync -/
def PDisk.sync (s : PDisk) (n : List UInt8) : Int × PDisk :=
  if (s.can (s.there n)).1 = 0 then
    match dirGet s.now n with
    | some i => (0, (s.can (s.there n)).2.setFile i ⟨(s.file i).b, (s.file i).b.length⟩)
    | none => s.can (s.there n)
  else s.can (s.there n)

set_option maxHeartbeats 1600000 in
theorem dsync_any {F : Nat → Prop} {w : World} {D : Nat} {s : PDisk} {mS : Nat} {mT : List Nat} {vT : Value} {bv : Nat → Value} (h : DiskAt F w D s mS mT vT bv) (n : List UInt8) :
    Calls Tryd.prog 56 #[ptrV D, strV n] w (OpPost F w D (s.sync n)) := by
  have HTH := Lib.hid (there_any h n)
  have HH := Lib.hid h
  clear h
  unfold ptrV strV at *
  rcases hq : s.can (s.there n) with ⟨e1, s1⟩
  by_cases he1 : e1 = 0
  · subst he1
    rcases there_cases s n with ⟨hg, ht⟩ | ⟨i, hg, ht⟩
    · rw [ht] at hq
      have := can_fst s 5 (by decide)
      rw [hq] at this
      exact absurd rfl this
    · have hsy : s.sync n = (0, s1.setFile i ⟨(s.file i).b, (s.file i).b.length⟩) := by unfold PDisk.sync; rw [hq, hg]; rfl
      rw [hsy]
      rw [ht] at HTH hq
      have hi : i ∈ s.ids := HH.out.inNow _ (dirGet_mem hg)
      have hs1 := can_zero hq
      have hbe : ((0 : Int) == 0) = true := rfl
      have HQ := Lib.hid hq
      have HG : Hid (dirGet s1.now n = some i ∧ i ∈ s1.ids ∧ s1.file = s.file) := by
        unfold Hid
        rw [hs1]
        exact ⟨hg, hi, rfl⟩
      clear hsy hq hg ht hi hs1
      go_enter Tryd.func56, Tryd.ntmps56
      go_wp2_with (first
        | (go_at_call 65; refine HTH.out.mono ?_; rintro e w1 ⟨rfl, rfl⟩)
        | (go_at_call 68; refine (can_any HH.out 0).mono ?_; rw [HQ.out]; rintro e w2 ⟨rfl, hD2, hk2, hz2⟩; have HN2 := Lib.hid (now_any hD2); have hlk := run_lookup_dir hD2.mapNow n; rw [HG.out.1] at hlk; simp only [strV, ptrV] at hlk HN2; have hBi := hD2.fileI i HG.out.2.1; have hRi := hD2.rowI i HG.out.2.1; have hbi0 := hBi.at 0 _ rfl; have hbi1 := hBi.at 1 _ rfl; have hfr1 := hBi.frozen 1; obtain ⟨Af, cf, hbv, hcf1, hcf2, hxf⟩ := (OwnB.sl hRi).one; rw [hbv] at hbi0; have HBI := Lib.hid hBi; have HRI := Lib.hid hRi; have HD2 := Lib.hid hD2; have HK2 := Lib.hid hk2; have HZ2 := Lib.hid hz2; clear hD2 hk2 hz2 hBi hRi hbv hxf)
        | (go_at_call 67; refine HN2.out.mono ?_; rintro e w3 ⟨rfl, rfl⟩))
      go_ret
      have hfl := HG.out.2.2
      have hb := HH.out.bytes i (by have := HG.out.2.1; rw [can_zero HQ.out] at this; exact this)
      have hD5 := HD2.out.setFile (w' := w2.setCell ⟨i, 1, none⟩ (.int .i64 (s1.file i).b.length)) HG.out.2.1 (v' := bv i) (f := ⟨(s.file i).b, (s.file i).b.length⟩)
        (fun x h1 h2 h3 => Below.heap_setCell w2 _ _ x h1) (by rw [← hfl]; exact HBI.out.set 1 _) (by
          rw [← hfl]
          exact own_at HRI.out fun x hx => Below.heap_setCell w2 _ _ x (own_ne HBI.out HRI.out (by decide) hx)) (fun x hx => .inl hx) ⟨hb.1, Nat.le_refl _⟩
      refine ⟨_, _, _, _, rfl, hD5.keepF (fun _ _ _ => rfl) ?_, ?_⟩
      · intro x hx
        rcases hx with hx | hx
        · exact .inl hx
        · exact .inr (by rw [HZ2.out] at hx; exact hx)
      · exact (HK2.out.mono fun x e => e ▸ HH.out.fD).trans (c := w2.setCell ⟨i, 1, none⟩ (.int .i64 (s1.file i).b.length)) (G := fun x => x = i) ⟨rfl, rfl, rfl, by simp [World.setCell], fun x hx hn => Below.heap_setCell w2 _ _ x hn⟩ fun x _ e => e ▸ HD2.out.fI _ HG.out.2.1
  · have hsy : s.sync n = s.can (s.there n) := by unfold PDisk.sync; rw [if_neg (by rw [hq]; exact he1)]
    have hbe : (e1 == 0) = false := by simpa using he1
    have HQ := Lib.hid hq
    rw [hsy]
    generalize s.there n = et at *
    clear hsy hq he1
    go_enter Tryd.func56, Tryd.ntmps56
    go_wp2_with (first
      | (go_at_call 65; refine HTH.out.mono ?_; rintro e w1 ⟨rfl, rfl⟩)
      | (go_at_call 68; refine (can_any HH.out et).mono ?_; rw [HQ.out]; rintro e w2 hc; have HC := Lib.hid hc; obtain ⟨rfl, _, _, _⟩ := hc))
    go_ret
    rw [HQ.out]
    exact op_err (Below.refl _ _) HH.out.fD HC.out

/-! ### DirSync -/
def PDisk.dirSync (s : PDisk) : Int × PDisk := if (s.can 0).1 = 0 then (0, { (s.can 0).2 with sure := (s.can 0).2.now, steps := [] }) else s.can 0

set_option maxHeartbeats 1600000 in
theorem dirSync_any {F : Nat → Prop} {w : World} {D : Nat} {s : PDisk} {mS : Nat} {mT : List Nat} {vT : Value} {bv : Nat → Value} (h : DiskAt F w D s mS mT vT bv) :
    Calls Tryd.prog 77 #[ptrV D] w (OpPost F w D s.dirSync) := by
  have HH := Lib.hid h
  clear h
  unfold ptrV at *
  rcases hq : s.can 0 with ⟨e1, s1⟩
  by_cases he1 : e1 = 0
  · subst he1
    have hsy : s.dirSync = (0, { s1 with sure := s1.now, steps := [] }) := by unfold PDisk.dirSync; rw [hq]; rfl
    rw [hsy]
    have hbe : ((0 : Int) == 0) = true := rfl
    have HQ := Lib.hid hq
    clear hsy hq
    go_enter Tryd.func77, Tryd.ntmps77
    go_wp2_with (first
      | (go_at_call 68; refine (can_any HH.out 0).mono ?_; rw [HQ.out]; rintro e w2 ⟨rfl, hD2, hk2, hz2⟩; have HN2 := Lib.hid (now_any hD2); simp only [strV, ptrV] at HN2; have d1 := hD2.blk.at 1 _ rfl; have d2 := hD2.blk.at 2 _ rfl; have f1 := hD2.blk.frozen 1; have f2 := hD2.blk.frozen 2; have HD2 := Lib.hid hD2; have HK2 := Lib.hid hk2; have HZ2 := Lib.hid hz2; clear hD2 hk2 hz2)
      | (go_at_call 67; refine HN2.out.mono ?_; rintro e w3 ⟨rfl, rfl⟩))
    go_ret
    have hD5 := HD2.out.reroot (w' := (w2.setCell ⟨D, 1, none⟩ (.map (some (nowB mS mT)))).setCell ⟨D, 2, none⟩ (.slice none 0 0)) (s' := { s1 with sure := s1.now, steps := [] }) (mS' := nowB mS mT)
      (fun b hb _ => (Below.heap_setCell _ _ _ b hb).trans (Below.heap_setCell _ _ _ b hb)) rfl rfl rfl rfl HD2.out.mapNow HD2.out.fNow HD2.out.inNow ((HD2.out.blk.set 1 _).set 2 _) HD2.out.fuse
    refine ⟨_, _, _, _, rfl, hD5.keepF (fun _ _ _ => rfl) fun x hx => .inl hx, ?_⟩
    have hK : Kept (fun x => x = D) w ((w2.setCell ⟨D, 1, none⟩ (.map (some (nowB mS mT)))).setCell ⟨D, 2, none⟩ (.slice none 0 0)) := kept_set (B := D) (kept_set (B := D) HK2.out _ _) _ _
    exact hK.mono fun x e => e ▸ HH.out.fD
  · have hsy : s.dirSync = s.can 0 := by unfold PDisk.dirSync; rw [if_neg (by rw [hq]; exact he1)]
    have hbe : (e1 == 0) = false := by simpa using he1
    have HQ := Lib.hid hq
    rw [hsy]
    clear hsy hq he1
    go_enter Tryd.func77, Tryd.ntmps77
    go_wp2_with (go_at_call 68; refine (can_any HH.out 0).mono ?_; rw [HQ.out]; rintro e w2 hc; have HC := Lib.hid hc; obtain ⟨rfl, _, _, _⟩ := hc)
    go_ret
    rw [HQ.out]
    exact op_err (Below.refl _ _) HH.out.fD HC.out

end Go.Proofs.YtocmnhjgknaocaaDoor

set_option linter.unusedVariables false
set_option linter.unusedSimpArgs false
set_option maxRecDepth 100000
namespace Go.Proofs.YtocmnhjgknaocaaDoor
open Go.RowKit Tb
open Go.ChangeMaps (setBlock)

theorem OwnB.cut {w : World} {base len c : Nat} {A : Option Addr} {xs : List UInt8} (h : OwnB w base (.slice A len c) xs) (n : Nat) (hn : n ≤ xs.length) : OwnB w base (.slice A n c) (xs.take n) := by
  have hl : (xs.take n).length = n := by rw [List.length_take]; omega
  unfold OwnB
  rw [hl]
  refine ⟨by rw [List.length_map, hl, Nat.mul_one], ?_⟩
  rcases h.2 with ⟨hv, h0⟩ | ⟨g, cap, cur, hv, hb, hh, h1, h2, h3, h4⟩
  · injection hv with e1 e2 e3
    subst e1; subst e3
    have : n = 0 := by omega
    subst this
    exact .inl ⟨rfl, rfl⟩
  · injection hv with e1 e2 e3
    subst e1; subst e3
    refine .inr ⟨g, c, cur, rfl, hb, hh, by omega, h2, h3, ?_⟩
    rw [Nat.mul_one] at h4 ⊢
    rw [List.map_take, ← h4, List.take_take, Nat.min_eq_left hn]

/-! ### Cut -/
def PDisk.cutErr (s : PDisk) (n : List UInt8) (k : Int) : Int := match dirGet s.now n with | none => 5 | some i => if k < 0 ∨ ((s.file i).b.length : Int) < k then 1 else 0
def PDisk.cut (s : PDisk) (n : List UInt8) (k : Int) : Int × PDisk :=
  if (s.can (s.cutErr n k)).1 = 0 then
    match dirGet s.now n with
    | some i => (0, (s.can (s.cutErr n k)).2.setFile i ⟨(s.file i).b.take k.toNat, min (s.file i).sure k.toNat⟩)
    | none => s.can (s.cutErr n k)
  else s.can (s.cutErr n k)

section
variable {F : Nat → Prop} {w : World} {D : Nat} {s : PDisk} {mS : Nat} {mT : List Nat} {vT : Value} {bv : Nat → Value}
set_option maxHeartbeats 800000 in
theorem cut_none (h : DiskAt F w D s mS mT vT bv) (n : List UInt8) (k : Int) (hg : dirGet s.now n = none) (ht : s.there n = 5) : Calls Tryd.prog 31 #[ptrV D, strV n, .int .i64 k] w (OpPost F w D (s.cut n k)) := by
  have HTH := Lib.hid (there_any h n)
  have HH := Lib.hid h
  clear h
  unfold ptrV strV at *
  rw [ht] at HTH
  have he : s.cutErr n k = 5 := by unfold PDisk.cutErr; rw [hg]
  have hne : (s.can 5).1 ≠ 0 := can_ne (by decide)
  have hbe : ((s.can 5).1 == 0) = false := by simpa using hne
  have hq : s.cut n k = s.can 5 := by unfold PDisk.cut; rw [he, if_neg hne]
  rw [hq]
  clear hne he hq hg ht
  go_enter Tryd.func31, Tryd.ntmps31
  go_wp2_with (first
    | (go_at_call 65; refine HTH.out.mono ?_; rintro e w1 ⟨rfl, rfl⟩)
    | (go_at_call 68; refine (can_any HH.out 5).mono ?_; rintro e w2 hc; have HC := Lib.hid hc; obtain ⟨rfl, _, _, _⟩ := hc))
  go_ret
  exact op_err (Below.refl _ _) HH.out.fD HC.out
set_option maxHeartbeats 800000 in
theorem cut_bad (h : DiskAt F w D s mS mT vT bv) (n : List UInt8) (k : Int) {i : Nat} (hg : dirGet s.now n = some i) (ht : s.there n = 0) (hk : k < 0 ∨ ((s.file i).b.length : Int) < k) : Calls Tryd.prog 31 #[ptrV D, strV n, .int .i64 k] w (OpPost F w D (s.cut n k)) := by
  have HTH := Lib.hid (there_any h n)
  have HNW := Lib.hid (now_any h)
  have hlk := run_lookup_dir h.mapNow n
  have HH := Lib.hid h
  clear h
  unfold ptrV strV at *
  rw [ht] at HTH
  rw [hg] at hlk
  simp only at hlk
  have hi : i ∈ s.ids := HH.out.inNow _ (dirGet_mem hg)
  have hB := (HH.out.fileI i hi).at 0 _ rfl
  obtain ⟨Af, cf, hbv, hcf1, hcf2, hxf⟩ := (OwnB.sl (HH.out.rowI i hi)).one
  rw [hbv] at hB
  have he : s.cutErr n k = 1 := by unfold PDisk.cutErr; rw [hg]; simp only; rw [if_pos hk]
  have hne : (s.can 1).1 ≠ 0 := can_ne (by decide)
  have hbe : ((s.can 1).1 == 0) = false := by simpa using hne
  have hq : s.cut n k = s.can 1 := by unfold PDisk.cut; rw [he, if_neg hne]
  rw [hq]
  clear hne he hq hg ht hi hbv hxf
  by_cases hk0 : k < 0
  · have hd : decide (k < 0) = true := decide_eq_true hk0
    clear hk
    go_enter Tryd.func31, Tryd.ntmps31
    go_wp2_with (first
      | (go_at_call 65; refine HTH.out.mono ?_; rintro e w1 ⟨rfl, rfl⟩)
      | (go_at_call 68; refine (can_any HH.out 1).mono ?_; rintro e w2 hc; have HC := Lib.hid hc; obtain ⟨rfl, _, _, _⟩ := hc))
    go_ret
    exact op_err (Below.refl _ _) HH.out.fD HC.out
  · have hd : decide (k < 0) = false := decide_eq_false hk0
    have hd2 : decide (((s.file i).b.length : Int) < k) = true := decide_eq_true (hk.resolve_left hk0)
    clear hk
    go_enter Tryd.func31, Tryd.ntmps31
    go_wp2_with (first
      | (go_at_call 65; refine HTH.out.mono ?_; rintro e w1 ⟨rfl, rfl⟩)
      | (go_at_call 67; refine HNW.out.mono ?_; rintro e w1 ⟨rfl, rfl⟩)
      | (go_at_call 68; refine (can_any HH.out 1).mono ?_; rintro e w2 hc; have HC := Lib.hid hc; obtain ⟨rfl, _, _, _⟩ := hc))
    go_ret
    exact op_err (Below.refl _ _) HH.out.fD HC.out
set_option maxHeartbeats 800000 in
theorem cut_down (h : DiskAt F w D s mS mT vT bv) (n : List UInt8) (k : Int) {i : Nat} (hg : dirGet s.now n = some i) (ht : s.there n = 0) (hk : ¬ (k < 0 ∨ ((s.file i).b.length : Int) < k)) {e1 : Int} {s1 : PDisk} (hq : s.can 0 = (e1, s1)) (he1 : ¬ e1 = 0) :
    Calls Tryd.prog 31 #[ptrV D, strV n, .int .i64 k] w (OpPost F w D (s.cut n k)) := by
  have HTH := Lib.hid (there_any h n)
  have HNW := Lib.hid (now_any h)
  have hlk := run_lookup_dir h.mapNow n
  have HH := Lib.hid h
  clear h
  unfold ptrV strV at *
  rw [ht] at HTH
  rw [hg] at hlk
  simp only at hlk
  have hi : i ∈ s.ids := HH.out.inNow _ (dirGet_mem hg)
  have hB := (HH.out.fileI i hi).at 0 _ rfl
  obtain ⟨Af, cf, hbv, hcf1, hcf2, hxf⟩ := (OwnB.sl (HH.out.rowI i hi)).one
  rw [hbv] at hB
  have he : s.cutErr n k = 0 := by unfold PDisk.cutErr; rw [hg]; simp only; rw [if_neg hk]
  have hcq : s.cut n k = s.can 0 := by unfold PDisk.cut; rw [he, hq, if_neg he1]
  have hbe : (e1 == 0) = false := by simpa using he1
  rw [hcq]
  have hd : decide (k < 0) = false := decide_eq_false fun h => hk (.inl h)
  have hd2 : decide (((s.file i).b.length : Int) < k) = false := decide_eq_false fun h => hk (.inr h)
  have HQ := Lib.hid hq
  clear he hcq hg ht hi hbv hxf hk hq he1
  go_enter Tryd.func31, Tryd.ntmps31
  go_wp2_with (first
    | (go_at_call 65; refine HTH.out.mono ?_; rintro e w1 ⟨rfl, rfl⟩)
    | (go_at_call 67; refine HNW.out.mono ?_; rintro e w1 ⟨rfl, rfl⟩)
    | (go_at_call 68; refine (can_any HH.out 0).mono ?_; rw [HQ.out]; rintro e w2 hc; have HC := Lib.hid hc; obtain ⟨rfl, _, _, _⟩ := hc))
  go_ret
  rw [HQ.out]
  exact op_err (Below.refl _ _) HH.out.fD HC.out

set_option maxHeartbeats 1600000 in
theorem cut_ok (h : DiskAt F w D s mS mT vT bv) (n : List UInt8) (k : Nat) {i : Nat} (hg : dirGet s.now n = some i) (ht : s.there n = 0) (hk : k ≤ (s.file i).b.length) {s1 : PDisk} (hq : s.can 0 = (0, s1)) :
    Calls Tryd.prog 31 #[ptrV D, strV n, .int .i64 k] w (OpPost F w D (s.cut n k)) := by
  have HTH := Lib.hid (there_any h n)
  have HNW := Lib.hid (now_any h)
  have hlk := run_lookup_dir h.mapNow n
  have HH := Lib.hid h
  clear h
  unfold ptrV strV at *
  rw [ht] at HTH
  rw [hg] at hlk
  simp only at hlk
  have hi : i ∈ s.ids := HH.out.inNow _ (dirGet_mem hg)
  have hB := (HH.out.fileI i hi).at 0 _ rfl
  obtain ⟨Af, cf, hbv, hcf1, hcf2, hxf⟩ := (OwnB.sl (HH.out.rowI i hi)).one
  rw [hbv] at hB
  have hby := HH.out.bytes i hi
  have he : s.cutErr n k = 0 := by unfold PDisk.cutErr; rw [hg]; simp only; rw [if_neg (by omega)]
  have hs1 := can_zero hq
  have hcq : s.cut n k = (0, s1.setFile i ⟨(s.file i).b.take k, min (s.file i).sure k⟩) := by unfold PDisk.cut; rw [he, hq, hg]; rfl
  have hbe : ((0 : Int) == 0) = true := rfl
  rw [hcq]
  have hd : decide ((k : Int) < 0) = false := decide_eq_false (by omega)
  have hd2 : decide ((s.file i).b.length < k) = false := decide_eq_false (by omega)
  have hi1 : (k : Int) ≤ (cf : Int) := by omega
  have HQ := Lib.hid hq
  have HG : Hid (i ∈ s1.ids ∧ s1.file = s.file ∧ dirGet s1.now n = some i) := by
    unfold Hid
    rw [hs1]
    exact ⟨hi, rfl, hg⟩
  have HBV := Lib.hid hbv
  clear he hcq hg ht hi hbv hxf hq hs1
  go_enter Tryd.func31, Tryd.ntmps31
  go_wp2_with (first
    | (go_at_call 65; refine HTH.out.mono ?_; rintro e w1 ⟨rfl, rfl⟩)
    | (go_at_call 67; refine HNW.out.mono ?_; rintro e w1 ⟨rfl, rfl⟩))
  refine (can_any HH.out 0).mono ?_
  rw [HQ.out]
  rintro e w2 ⟨rfl, hD2, hk2, hz2⟩
  have hD2 : DiskAt F w2 D s1 mS mT vT bv := hD2
  dsimp only
  have HN2 := Lib.hid (now_any hD2)
  have hlk2 := run_lookup_dir hD2.mapNow n
  rw [HG.out.2.2] at hlk2
  simp only [strV, ptrV] at hlk2 HN2
  have hBi := hD2.fileI i HG.out.1
  have hRi := hD2.rowI i HG.out.1
  have hbi0 := hBi.at 0 _ rfl
  have hbi1 := hBi.at 1 _ rfl
  have hfr0 := hBi.frozen 0
  have hfr1 := hBi.frozen 1
  rw [HBV.out] at hbi0
  rw [HG.out.2.1] at hbi1
  have HBI := Lib.hid hBi
  have HRI := Lib.hid hRi
  have HD2 := Lib.hid hD2
  have HK2 := Lib.hid hk2
  have HZ2 := Lib.hid hz2
  clear hD2 hk2 hz2 hBi hRi
  go_wp2_with (go_at_call 67; refine HN2.out.mono ?_; rintro e w3 ⟨rfl, rfl⟩)
  go_region
  have hmin : (if k < (s.file i).sure then (k : Int) else ((s.file i).sure : Int)) = ((min (s.file i).sure k : Nat) : Int) := by split <;> omega
  rw [hmin]
  clear hmin
  obtain ⟨W, hW⟩ : ∃ W, W = (w2.setCell ⟨i, 0, none⟩ (.slice Af k cf)).setCell ⟨i, 1, none⟩ (.int .i64 ((min (s.file i).sure k : Nat) : Int)) := ⟨_, rfl⟩
  rw [← hW]
  have HW := Lib.hid hW
  clear hW
  go_wp2_with fail
  go_ret
  have hH : W.drew.heap = ((w2.setCell ⟨i, 0, none⟩ (.slice Af k cf)).setCell ⟨i, 1, none⟩ (.int .i64 ((min (s.file i).sure k : Nat) : Int))).heap := by rw [HW.out]; rfl
  have hkeep : ∀ x, x ≠ i → W.drew.heap[x]? = w2.heap[x]? := fun x h1 => by
    rw [hH]
    exact (Below.heap_setCell _ _ _ x h1).trans (Below.heap_setCell w2 _ _ x h1)
  have hfl := HG.out.2.1
  have hri : OwnB w2 0 (.slice Af (s.file i).b.length cf) (s.file i).b := by rw [← HBV.out, ← hfl]; exact HRI.out
  have hBi : Blk w2 i [bv i, .int .i64 (s1.file i).sure] 129 := HBI.out
  have hD5 := HD2.out.setFile (w' := W.drew) HG.out.1 (v' := .slice Af k cf) (f := ⟨(s.file i).b.take k, min (s.file i).sure k⟩)
    (fun x h1 h2 h3 => hkeep x h1) (by
      unfold Blk
      rw [hH]
      exact ((hBi.set 0 _).set 1 _)) (by
      refine own_at (w := w2) (hri.cut k hk) fun x hx => hkeep x ?_
      exact own_ne hBi (hri.cut k hk) (by decide) hx) (fun x hx => by
      rw [HBV.out]
      exact .inl (by rcases Af with _ | a <;> first | exact hx | cases hx)) ⟨by rw [List.length_take]; show min k _ ≤ _; omega, by show min _ k ≤ (List.take k _).length; rw [List.length_take]; omega⟩
  refine ⟨_, _, _, _, rfl, hD5.keepF (fun _ _ _ => rfl) ?_, ?_⟩
  · intro x hx
    rcases hx with hx | hx
    · exact .inl hx
    · exact .inr (by rw [HZ2.out] at hx; exact hx)
  · have hs : W.drew.heap.size = w2.heap.size := by rw [hH]; simp [World.setCell]
    have ho : W.drew.os = w2.os ∧ W.drew.tape = w2.tape ∧ W.drew.output = w2.output := by rw [HW.out]; exact ⟨rfl, rfl, rfl⟩
    exact (HK2.out.mono fun x e => e ▸ HH.out.fD).trans (c := W.drew) (G := fun x => x = i) ⟨ho.1, ho.2.1, ho.2.2, by omega, fun x hx hn => hkeep x hn⟩ fun x _ e => e ▸ HD2.out.fI _ HG.out.1
theorem dcut_any (h : DiskAt F w D s mS mT vT bv) (n : List UInt8) (k : Int) : Calls Tryd.prog 31 #[ptrV D, strV n, .int .i64 k] w (OpPost F w D (s.cut n k)) := by
  rcases there_cases s n with ⟨hg, ht⟩ | ⟨i, hg, ht⟩
  · exact cut_none h n k hg ht
  · by_cases hk : k < 0 ∨ ((s.file i).b.length : Int) < k
    · exact cut_bad h n k hg ht hk
    · rcases hq : s.can 0 with ⟨e1, s1⟩
      by_cases he1 : e1 = 0
      · subst he1
        obtain ⟨j, rfl⟩ : ∃ j : Nat, k = (j : Int) := ⟨k.toNat, by omega⟩
        exact cut_ok h n j hg ht (by omega) hq
      · exact cut_down h n k hg ht hk hq he1
end

end Go.Proofs.YtocmnhjgknaocaaDoor
