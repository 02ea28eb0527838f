import Derived.Test.YtocmnhjgknaocaaDoorDisk13
import Derived.Test.YtocmnhjgknaocaaDoorName1
set_option linter.unusedVariables false
set_option linter.unusedSimpArgs false
set_option maxRecDepth 100000
namespace Go.Proofs.YtocmnhjgknaocaaDoor
open Go.RowKit Tb
open Go.ChangeMaps (setBlock)

/-! ### the table that names lean on, and a disk whose blocks are told -/
def Tab (w : World) : Prop := Lib.TabIs Tryd.prog w "internal/strconv.uint64pow10" .u64 Lib.pow10Tab
theorem gPow_eq : Tryd.prog.globalNamed "internal/strconv.uint64pow10" = some 1 := by kernel_rfl
theorem Tab.lt {w : World} (h : Tab w) : 1 < w.heap.size := by
  unfold Tab Lib.TabIs World.var? at h
  rw [gPow_eq] at h
  rcases Nat.lt_or_ge 1 w.heap.size with h' | h'
  · exact h'
  · simp only [Option.bind_some] at h
    rw [Array.getElem?_eq_none h'] at h
    simp at h
theorem Tab.keep {w w' : World} (h : Tab w) (hk : w'.heap[(1 : Nat)]? = w.heap[(1 : Nat)]?) : Tab w' := by
  unfold Tab Lib.TabIs World.var? at *
  rw [gPow_eq] at *
  simp only [Option.bind_some] at *
  rw [hk]
  exact h
theorem Tab.below {w w' : World} (h : Tab w) (hb : Below w.heap.size w w') : Tab w' := h.keep (hb.block _ h.lt)
theorem Tab.kept {F : Nat → Prop} {w w' : World} (h : Tab w) (hb : Kept F w w') (hF : ¬ F 1) : Tab w' := h.keep (hb.block _ h.lt hF)

/-- A disk somewhere in F. -/
def DiskIn (F : Nat → Prop) (w : World) (D : Nat) (s : PDisk) : Prop := ∃ mS mT vT bv, DiskAt F w D s mS mT vT bv
theorem DiskAt.bound {F : Nat → Prop} {w : World} {D : Nat} {s : PDisk} {mS : Nat} {mT : List Nat} {vT : Value} {bv : Nat → Value} (h : DiskAt F w D s mS mT vT bv) : DiskAt (fun b => F b ∧ b < w.heap.size) w D s mS mT vT bv where
  fD := ⟨h.fD, h.blk.lt⟩
  blk := h.blk
  fS := ⟨h.fS, h.mapS.lt⟩
  mapS := h.mapS
  lenT := h.lenT
  fT := fun m hm => by
    obtain ⟨j, hj, rfl⟩ := List.mem_iff_getElem.1 hm
    exact ⟨h.fT _ hm, (h.mapT j hj (by rw [← h.lenT]; exact hj)).lt⟩
  mapT := h.mapT
  rowT := h.rowT
  fR := fun b hb => ⟨h.fR b hb, (h.rowT.lt b hb).2⟩
  nodup := h.nodup
  fI := fun i hi => ⟨h.fI i hi, (h.fileI i hi).lt⟩
  fileI := h.fileI
  rowI := h.rowI
  fB := fun i hi b hb => ⟨h.fB i hi b hb, (World.ownsRow.lt (h.rowI i hi) b hb).2⟩
  apart := h.apart
  inS := h.inS
  inT := h.inT
  fuse := h.fuse
  room := h.room
  long := h.long
  many := h.many
  bytes := h.bytes
theorem DiskIn.bound {F : Nat → Prop} {w : World} {D : Nat} {s : PDisk} (h : DiskIn F w D s) : DiskIn (fun b => F b ∧ b < w.heap.size) w D s := by
  obtain ⟨a, b, c, d, h⟩ := h
  exact ⟨a, b, c, d, h.bound⟩
theorem DiskIn.keepF {F G : Nat → Prop} {w w' : World} {D : Nat} {s : PDisk} (h : DiskIn F w D s) (hk : ∀ b, F b → b < w.heap.size → w'.heap[b]? = w.heap[b]?) (hFG : ∀ b, F b → G b) : DiskIn G w' D s := by
  obtain ⟨a, b, c, d, h⟩ := h
  exact ⟨a, b, c, d, h.keepF hk hFG⟩
theorem DiskIn.below {F : Nat → Prop} {w w' : World} {D : Nat} {s : PDisk} (h : DiskIn F w D s) (hb : Below w.heap.size w w') : DiskIn F w' D s := h.keepF (fun b _ hlt => hb.block b hlt) fun _ h => h
theorem DiskIn.fD {F : Nat → Prop} {w : World} {D : Nat} {s : PDisk} (h : DiskIn F w D s) : F D := by
  obtain ⟨a, b, c, d, h⟩ := h
  exact h.fD

/-! ### a log -/
structure PLog where
  seg : Nat
  at_ : Nat
  most : Int
  dirty : Nat
  begun : Bool
def LogAt (w : World) (L D : Nat) (g : PLog) : Prop :=
  Blk w L [ptrV D, .int .u64 g.seg, .int .u64 g.at_, .int .i64 g.most, .int .u64 g.dirty, .bool g.begun] 103 ∧ g.seg < 10000000000 ∧ 64 ≤ g.most ∧ g.most ≤ 65536
theorem LogAt.keep {w w' : World} {L D : Nat} {g : PLog} (h : LogAt w L D g) (hk : w'.heap[L]? = w.heap[L]?) : LogAt w' L D g := ⟨hk.trans h.1, h.2⟩
theorem LogAt.below {w w' : World} {L D : Nat} {g : PLog} (h : LogAt w L D g) (hb : Below w.heap.size w w') : LogAt w' L D g := h.keep (hb.block _ h.1.lt)
theorem LogAt.kept {F : Nat → Prop} {w w' : World} {L D : Nat} {g : PLog} (h : LogAt w L D g) (hb : Kept F w w') (hF : ¬ F L) : LogAt w' L D g := h.keep (hb.block _ h.1.lt hF)

def madeOk (seg : Nat) (size : Int) : Bool := decide (64 ≤ size) && decide (size ≤ 65536) && decide (seg < 10000000000)
def segName (seg : Nat) : List UInt8 := 109 :: 46 :: Lib.decDigits seg
theorem nameOf_seg {seg : Nat} (h : seg < 10000000000) : nameOf 109 seg = .ok (segName seg) := by
  unfold nameOf
  rw [decide_eq_true h]
  rfl
theorem segName_len {seg : Nat} (h : seg < 10000000000) : (segName seg).length ≤ 12 := by
  have key : ∀ (k u : Nat), u < 10 ^ (k + 1) → Lib.nDigits u ≤ k + 1 := by
    intro k
    induction k with
    | zero => intro u hu; rw [Lib.nDigits_small (by omega)]; omega
    | succ k ih =>
      intro u hu
      by_cases h10 : u < 10
      · rw [Lib.nDigits_small h10]; omega
      · rw [Lib.nDigits_big h10]
        have := ih (u / 10) (by rw [Nat.pow_succ] at hu; omega)
        omega
  have h9 := key 9 seg (by omega)
  unfold segName
  rw [List.length_cons, List.length_cons, Lib.decDigits_length]
  omega
theorem segOf_any (seg : Nat) (h : seg < 10000000000) (w : World) (ht : Tab w) : Calls Tryd.prog 36 #[.int .u8 109, .int .u64 seg] w (RetB w fun v _ => v = .tuple #[.string ⟨(segName seg).toArray⟩, .int .i64 0]) := by
  have hq := nameOf_any 109 seg (by omega) w ht
  rw [nameOf_seg h] at hq
  exact hq
theorem segOf_bad (seg : Nat) (h : ¬ seg < 10000000000) (h64 : seg < 18446744073709551616) (w : World) (ht : Tab w) : Calls Tryd.prog 36 #[.int .u8 109, .int .u64 seg] w (RetB w fun v _ => v = .tuple #[.string ⟨#[]⟩, .int .i64 1]) := by
  have hq := nameOf_any 109 seg h64 w ht
  have : nameOf 109 seg = .error 1 := by
    unfold nameOf
    rw [decide_eq_false h]
    rfl
  rw [this] at hq
  exact hq

def MadePost (w : World) (D seg : Nat) (size : Int) (v : Value) (w' : World) : Prop :=
  match madeOk seg size with
  | true => ∃ L, v = .tuple #[ptrV L, .string ⟨(segName seg).toArray⟩, .int .i64 0] ∧ w.heap.size ≤ L ∧ LogAt w' L D ⟨seg, 0, size, seg, false⟩
  | false => v = .tuple #[.pointer none, .string ⟨#[]⟩, .int .i64 1]

set_option maxHeartbeats 1600000 in
theorem made_any (D seg : Nat) (size : Int) (h64 : seg < 18446744073709551616) (w : World) (ht : Tab w) : Calls Tryd.prog 50 #[ptrV D, .int .u64 seg, .int .i64 size] w (RetB w (MadePost w D seg size)) := by
  unfold ptrV
  by_cases hseg : seg < 10000000000
  · have HO := Lib.hid (segOf_any seg hseg w ht)
    by_cases h1 : size < 64
    · have hq : madeOk seg size = false := by unfold madeOk; rw [decide_eq_false (show ¬ 64 ≤ size by omega)]; rfl
      have HQ := Lib.hid hq
      have e1 : decide (size < 64) = true := decide_eq_true h1
      clear hq
      go_enter Tryd.func50, Tryd.ntmps50
      go_wp2_with (go_at_call 36; refine HO.out.mono ?_; rintro e w1 ⟨v1, rfl, hb1, rfl⟩)
      go_ret3
      refine ⟨_, rfl, hb1, ?_⟩
      unfold MadePost
      rw [HQ.out]
      rfl
    · have e1 : decide (size < 64) = false := decide_eq_false h1
      by_cases h2 : 65536 < size
      · have hq : madeOk seg size = false := by unfold madeOk; rw [decide_eq_false (show ¬ size ≤ 65536 by omega)]; simp
        have HQ := Lib.hid hq
        have e2 : decide (65536 < size) = true := decide_eq_true h2
        clear hq
        go_enter Tryd.func50, Tryd.ntmps50
        go_wp2_with (go_at_call 36; refine HO.out.mono ?_; rintro e w1 ⟨v1, rfl, hb1, rfl⟩)
        go_ret3
        refine ⟨_, rfl, hb1, ?_⟩
        unfold MadePost
        rw [HQ.out]
        rfl
      · have hq : madeOk seg size = true := by unfold madeOk; rw [decide_eq_true (show 64 ≤ size by omega), decide_eq_true (show size ≤ 65536 by omega), decide_eq_true hseg]; rfl
        have HQ := Lib.hid hq
        have e2 : decide (65536 < size) = false := decide_eq_false h2
        clear hq
        go_enter Tryd.func50, Tryd.ntmps50
        go_wp2_with (go_at_call 36; refine HO.out.mono ?_; rintro e w1 ⟨v1, rfl, hb1, rfl⟩)
        go_ret3
        refine ⟨_, rfl, below_alloc hb1 _, ?_⟩
        unfold MadePost
        rw [HQ.out]
        exact ⟨_, rfl, hb1.size, Blk.new w1 [ptrV D, .int .u64 seg, .int .u64 0, .int .i64 size, .int .u64 seg, .bool false] _, hseg, by show 64 ≤ size; omega, by show size ≤ 65536; omega⟩
  · have HO := Lib.hid (segOf_bad seg hseg h64 w ht)
    have hq : madeOk seg size = false := by unfold madeOk; rw [decide_eq_false hseg]; simp
    have HQ := Lib.hid hq
    clear hq
    go_enter Tryd.func50, Tryd.ntmps50
    by_cases h1 : size < 64
    · have e1 : decide (size < 64) = true := decide_eq_true h1
      go_wp2_with (go_at_call 36; refine HO.out.mono ?_; rintro e w1 ⟨v1, rfl, hb1, rfl⟩)
      go_ret3
      refine ⟨_, rfl, hb1, ?_⟩
      unfold MadePost
      rw [HQ.out]
      rfl
    · have e1 : decide (size < 64) = false := decide_eq_false h1
      by_cases h2 : 65536 < size
      · have e2 : decide (65536 < size) = true := decide_eq_true h2
        go_wp2_with (go_at_call 36; refine HO.out.mono ?_; rintro e w1 ⟨v1, rfl, hb1, rfl⟩)
        go_ret3
        refine ⟨_, rfl, hb1, ?_⟩
        unfold MadePost
        rw [HQ.out]
        rfl
      · have e2 : decide (65536 < size) = false := decide_eq_false h2
        go_wp2_with (go_at_call 36; refine HO.out.mono ?_; rintro e w1 ⟨v1, rfl, hb1, rfl⟩)
        go_ret3
        refine ⟨_, rfl, hb1, ?_⟩
        unfold MadePost
        rw [HQ.out]
        rfl

end Go.Proofs.YtocmnhjgknaocaaDoor
