import Derived.Test.YtocmnhjgknaocaaDoorMap
import Derived.Test.YtocmnhjgknaocaaDoorOwn2
set_option linter.unusedVariables false
set_option linter.unusedSimpArgs false
set_option maxRecDepth 100000
namespace Go.Proofs.YtocmnhjgknaocaaDoor
open Go.RowKit Tb

structure PFile where
  b : List UInt8
  sure : Nat
/-- A disk: its files by the block in which each lies. -/
structure PDisk where
  room : Int
  fuse : Int
  down : Bool
  sure : Dir
  steps : List Dir
  ids : List Nat
  file : Nat → PFile
def PDisk.now (s : PDisk) : Dir := match s.steps.getLast? with | some d => d | none => s.sure

structure DiskAt (F : Nat → Prop) (w : World) (D : Nat) (s : PDisk) (mS : Nat) (mT : List Nat) (vT : Value) (bv : Nat → Value) : Prop where
  fD : F D
  blk : Blk w D [.int .i64 s.room, .map (some mS), vT, .int .i64 s.fuse, .bool s.down] 111
  fS : F mS
  mapS : MapIs w mS s.sure
  lenT : mT.length = s.steps.length
  fT : ∀ m ∈ mT, F m
  mapT : ∀ j (h : j < mT.length) (h2 : j < s.steps.length), MapIs w mT[j] s.steps[j]
  rowT : w.ownsRow 0 108 1 vT mT.length (mT.map fun m => Value.map (some m))
  fR : ∀ b, vT.ownBlock = some b → F b
  nodup : s.ids.Nodup
  fI : ∀ i ∈ s.ids, F i
  fileI : ∀ i ∈ s.ids, Blk w i [bv i, .int .i64 (s.file i).sure] 129
  rowI : ∀ i ∈ s.ids, OwnB w 0 (bv i) (s.file i).b
  fB : ∀ i ∈ s.ids, ∀ b, (bv i).ownBlock = some b → F b
  apart : ∀ i ∈ s.ids, ∀ j ∈ s.ids, i ≠ j → Apart (bv i) (bv j)
  inS : ∀ p ∈ s.sure, p.2 ∈ s.ids
  inT : ∀ d ∈ s.steps, ∀ p ∈ d, p.2 ∈ s.ids
  fuse : -1 ≤ s.fuse ∧ s.fuse ≤ 9223372036854775807
  room : 0 ≤ s.room ∧ s.room ≤ 1048576
  long : s.steps.length ≤ 1000000000
  many : s.ids.length ≤ 1000000000
  bytes : ∀ i ∈ s.ids, (s.file i).b.length ≤ 1048576 ∧ (s.file i).sure ≤ (s.file i).b.length

/-- The directory's map. -/
def nowB (mS : Nat) (mT : List Nat) : Nat := match mT.getLast? with | some m => m | none => mS

set_option maxHeartbeats 800000 in
theorem now_any {F : Nat → Prop} {w : World} {D : Nat} {s : PDisk} {mS : Nat} {mT : List Nat} {vT : Value} {bv : Nat → Value} (h : DiskAt F w D s mS mT vT bv) :
    Calls Tryd.prog 67 #[ptrV D] w (Ret (.map (some (nowB mS mT))) w) := by
  have c1 := h.blk.at 1 _ rfl
  have c2 := h.blk.at 2 _ rfl
  have hl := h.long
  rw [← h.lenT] at hl
  have HROW := Lib.hid h.rowT
  clear h
  unfold ptrV
  rcases Nat.eq_zero_or_pos mT.length with h0 | h0
  · obtain rfl : mT = [] := List.eq_nil_of_length_eq_zero h0
    rcases HROW.out.2 with ⟨rfl, _⟩ | ⟨g, cap, cur, rfl, _⟩
    · go_enter Tryd.func67, Tryd.ntmps67
      go_wp2_with fail
      go_ret
      exact ⟨rfl, rfl⟩
    · have c2 : w.cell? ⟨D, 2, none⟩ = some (.slice (some ⟨g, 0, none⟩) 0 cap) := c2
      go_enter Tryd.func67, Tryd.ntmps67
      go_wp2_with fail
      go_ret
      exact ⟨rfl, rfl⟩
  · obtain ⟨k, hk⟩ : ∃ k, mT.length = k + 1 := ⟨mT.length - 1, by omega⟩
    rcases HROW.out.2 with ⟨rfl, h1⟩ | ⟨g, cap, cur, rfl, _⟩
    · omega
    · have hlast : mT[k]? = some (nowB mS mT) := by
        unfold nowB
        rw [List.getLast?_eq_getElem?, hk, Nat.add_sub_cancel]
        have : k < mT.length := by omega
        rw [List.getElem?_eq_getElem this]
      have hc := HROW.out.cells (g := g) rfl k (.map (some (nowB mS mT))) (by rw [List.getElem?_map, hlast]; rfl)
      have hadd : (⟨g, 0, none⟩ : Addr).add k = ⟨g, k, none⟩ := by unfold Addr.add; split <;> simp_all
      rw [hadd] at hc
      rw [hk] at c2
      clear HROW
      go_enter Tryd.func67, Tryd.ntmps67
      go_wp2_with fail
      go_ret
      exact ⟨rfl, rfl⟩

theorem blk_ne {w : World} {b b' : Nat} {cs cs' : List Value} {t t' : TypeId} (h : Blk w b cs t) (h' : Blk w b' cs' t') (hne : t ≠ t') : b ≠ b' := by
  rintro rfl
  unfold Blk at h h'
  rw [h] at h'
  injection h' with h'
  injection h' with _ h2 _
  exact hne h2
theorem own_ne {w : World} {b g base n size : Nat} {cs : List Value} {t t' : TypeId} {v : Value} {xs : List Value} (h : Blk w b cs t) (h' : w.ownsRow base t' size v n xs) (hne : t ≠ t') (hg : v.ownBlock = some g) : g ≠ b := by
  rintro rfl
  rcases h'.2 with ⟨rfl, _⟩ | ⟨g', cap, cur, rfl, _, hh, _⟩
  · cases hg
  · injection hg with hg
    have hg : g' = g := hg
    subst hg
    unfold Blk at h
    rw [h] at hh
    injection hh with hh
    injection hh with _ h2 _
    exact hne h2
/-- A row is as it was, where its block is. -/
theorem own_at {w w' : World} {base n size : Nat} {t : TypeId} {v : Value} {xs : List Value} (h : w.ownsRow base t size v n xs) (hk : ∀ b, v.ownBlock = some b → w'.heap[b]? = w.heap[b]?) : w'.ownsRow base t size v n xs := by
  refine ⟨h.1, ?_⟩
  rcases h.2 with hn | ⟨g, cap, cur, rfl, hb, hgg, rest⟩
  · exact .inl hn
  · exact .inr ⟨g, cap, cur, rfl, hb, by rw [hk g rfl]; exact hgg, rest⟩
/-- The disk's own block has turned. -/
theorem DiskAt.top {F : Nat → Prop} {w w' : World} {D : Nat} {s s' : PDisk} {mS : Nat} {mT : List Nat} {vT : Value} {bv : Nat → Value} (h : DiskAt F w D s mS mT vT bv)
    (hk : ∀ b, b ≠ D → b < w.heap.size → w'.heap[b]? = w.heap[b]?) (e1 : s'.sure = s.sure) (e2 : s'.steps = s.steps) (e3 : s'.ids = s.ids) (e4 : s'.file = s.file) (e5 : s'.room = s.room)
    (hB : Blk w' D [.int .i64 s'.room, .map (some mS), vT, .int .i64 s'.fuse, .bool s'.down] 111) (hf : -1 ≤ s'.fuse ∧ s'.fuse ≤ 9223372036854775807) : DiskAt F w' D s' mS mT vT bv where
  fD := h.fD
  blk := hB
  fS := h.fS
  mapS := by rw [e1]; exact h.mapS.keep (hk _ (h.mapS.cells h.blk) h.mapS.lt)
  lenT := by rw [e2]; exact h.lenT
  fT := h.fT
  mapT := fun j h1 h2 => by
    have hm := h.mapT j h1 (by rw [← e2]; exact h2)
    simp only [e2]
    exact hm.keep (hk _ (hm.cells h.blk) hm.lt)
  rowT := own_at h.rowT fun b hb => hk b (own_ne h.blk h.rowT (by decide) hb) (h.rowT.lt b hb).2
  fR := h.fR
  nodup := by rw [e3]; exact h.nodup
  fI := by rw [e3]; exact h.fI
  fileI := fun i hi => by
    rw [e3] at hi
    rw [e4]
    have hb := h.fileI i hi
    exact (hk i (blk_ne hb h.blk (by decide)) hb.lt).trans hb
  rowI := fun i hi => by
    rw [e3] at hi
    rw [e4]
    have hr := h.rowI i hi
    exact own_at hr fun b hb => hk b (own_ne h.blk hr (by decide) hb) (World.ownsRow.lt hr b hb).2
  fB := by rw [e3]; exact h.fB
  apart := by rw [e3]; exact h.apart
  inS := by rw [e1, e3]; exact h.inS
  inT := by rw [e2, e3]; exact h.inT
  fuse := hf
  room := by rw [e5]; exact h.room
  long := by rw [e2]; exact h.long
  many := by rw [e3]; exact h.many
  bytes := by rw [e3, e4]; exact h.bytes

/-- Whether a call is done, and the disk behind. -/
def PDisk.can (s : PDisk) (e : Int) : Int × PDisk :=
  if s.down then (7, s) else if e ≠ 0 then (e, s) else if s.fuse = 0 then (7, { s with down := true }) else if 0 < s.fuse then (0, { s with fuse := s.fuse - 1 }) else (0, s)

def CanPost (F : Nat → Prop) (w : World) (D : Nat) (q : Int × PDisk) (mS : Nat) (mT : List Nat) (vT : Value) (bv : Nat → Value) (e : Ending) (w' : World) : Prop :=
  e = .returned (.int .i64 q.1) ∧ DiskAt F w' D q.2 mS mT vT bv ∧ Kept (fun b => b = D) w w' ∧ w'.heap.size = w.heap.size

set_option maxHeartbeats 800000 in
theorem can_any {F : Nat → Prop} {w : World} {D : Nat} {s : PDisk} {mS : Nat} {mT : List Nat} {vT : Value} {bv : Nat → Value} (h : DiskAt F w D s mS mT vT bv) (e : Int) :
    Calls Tryd.prog 68 #[ptrV D, .int .i64 e] w (CanPost F w D (s.can e) mS mT vT bv) := by
  have c3 := h.blk.at 3 _ rfl
  have c4 := h.blk.at 4 _ rfl
  have f3 := h.blk.frozen 3
  have f4 := h.blk.frozen 4
  have hfu := h.fuse
  have HH := Lib.hid h
  clear h
  unfold ptrV
  rcases hd : s.down with _ | _
  · rw [hd] at c4
    by_cases he : e = 0
    · subst he
      by_cases h0 : s.fuse = 0
      · have hq : s.can 0 = (7, { s with down := true }) := by unfold PDisk.can; rw [hd, h0]; rfl
        rw [hq]
        rw [h0] at c3
        go_enter Tryd.func68, Tryd.ntmps68
        go_wp2_with fail
        go_ret
        refine ⟨rfl, HH.out.top (fun b hb _ => Below.heap_setCell w _ _ b hb) rfl rfl rfl rfl rfl (HH.out.blk.set 4 _) HH.out.fuse, kept_set (B := D) (Kept.refl _ _) _ _, by simp [World.setCell]⟩
      · by_cases h1 : 0 < s.fuse
        · have hq : s.can 0 = (0, { s with fuse := s.fuse - 1 }) := by unfold PDisk.can; rw [hd, if_neg (by simp), if_neg (by simp), if_neg h0, if_pos h1]
          rw [hq]
          have hb0 : (s.fuse == 0) = false := by simpa using h0
          have hb1 : decide (0 < s.fuse) = true := by simpa using h1
          go_enter Tryd.func68, Tryd.ntmps68
          go_wp2_with fail
          go_ret
          refine ⟨rfl, HH.out.top (fun b hb _ => Below.heap_setCell w _ _ b hb) rfl rfl rfl rfl rfl (HH.out.blk.set 3 _) ⟨by show -1 ≤ s.fuse - 1; omega, by show s.fuse - 1 ≤ _; omega⟩, kept_set (B := D) (Kept.refl _ _) _ _, by simp [World.setCell]⟩
        · have hq : s.can 0 = (0, s) := by unfold PDisk.can; rw [hd, if_neg (by simp), if_neg (by simp), if_neg h0, if_neg h1]
          rw [hq]
          have hb0 : (s.fuse == 0) = false := by simpa using h0
          have hb1 : decide (0 < s.fuse) = false := by simpa using h1
          go_enter Tryd.func68, Tryd.ntmps68
          go_wp2_with fail
          go_ret
          exact ⟨rfl, HH.out, Kept.refl _ _, rfl⟩
    · have hq : s.can e = (e, s) := by unfold PDisk.can; rw [hd, if_neg (by simp), if_pos he]
      rw [hq]
      have hb : (e != 0) = true := by simpa using he
      go_enter Tryd.func68, Tryd.ntmps68
      go_wp2_with fail
      go_ret
      exact ⟨rfl, HH.out, Kept.refl _ _, rfl⟩
  · have hq : s.can e = (7, s) := by unfold PDisk.can; rw [hd]; rfl
    rw [hq]
    rw [hd] at c4
    go_enter Tryd.func68, Tryd.ntmps68
    go_wp2_with fail
    go_ret
    exact ⟨rfl, HH.out, Kept.refl _ _, rfl⟩

end Go.Proofs.YtocmnhjgknaocaaDoor
