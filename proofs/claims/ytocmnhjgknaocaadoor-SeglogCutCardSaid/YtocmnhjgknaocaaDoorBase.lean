import Derived.WalkKit
import Derived.Lib.Hide
import Derived.Deep.QuietTactic
import Derived.BigQuiet
import Derived.WalkLawsBesides
import Derived.WalkSpells
import Derived.Deep.DeepFit
import Derived.WalkSmall
set_option linter.unusedVariables false
set_option linter.unusedSimpArgs false
namespace Go.Proofs.YtocmnhjgknaocaaDoor
open Go.RowKit

/-! ### what a call comes to -/
def Ret (v : Value) (w1 : World) (e : Ending) (w' : World) : Prop := e = .returned v ∧ w1 = w'
/-- It comes to a value, having made memory alone. -/
def RetB (w0 : World) (Q : Value → World → Prop) (e : Ending) (w' : World) : Prop := ∃ v, e = .returned v ∧ Below w0.heap.size w0 w' ∧ Q v w'

theorem below_step {w W w2 : World} (h : Below w.heap.size w W) (k : Below W.heap.size W w2) : Below w.heap.size w w2 :=
  h.trans ⟨k.os, k.tape, k.output, k.size, fun i hi => k.block i (Nat.lt_of_lt_of_le hi h.size)⟩
theorem below_alloc {w W : World} (h : Below w.heap.size w W) (o : Obj) : Below w.heap.size w (W.alloc o) := h.alloc h.size o
theorem below_drewN {B : Nat} {w W : World} (h : Below B w W) (n : Nat) : Below B w (W.drewN n) := ⟨h.os, h.tape, h.output, h.size, h.block⟩

theorem below_of_drew {w w1 : World} (h : Below w.drew.heap.size w.drew w1) : Below w.heap.size w w1 := ⟨h.os, h.tape, h.output, h.size, h.block⟩
theorem below_of_drewN {w w1 : World} {n : Nat} (h : Below (w.drewN n).heap.size (w.drewN n) w1) : Below w.heap.size w w1 := ⟨h.os, h.tape, h.output, h.size, h.block⟩
theorem below_al {W w1 : World} {o : Obj} (h : Below (W.alloc o).heap.size (W.alloc o) w1) : Below W.heap.size W w1 :=
  ⟨h.os, h.tape, h.output, Nat.le_trans (by simp) h.size, fun k hk => (h.block k (by simp; omega)).trans (Below.heap_alloc W o k hk)⟩
theorem cell_below {W w1 : World} (h : Below W.heap.size W w1) {a : Addr} {v : Value} (hc : W.cell? a = some v) : w1.cell? a = some v := (h.cell (World.block_lt_of_cell? W a hc)).trans hc
theorem setRow_size (w : World) (g : Nat) (cs : Array Value) : (w.setRow g cs).heap.size = w.heap.size := by simp [World.setRow]
theorem below_setRow {B : Nat} {w W : World} (h : Below B w W) {g : Nat} (hg : B ≤ g) (cs : Array Value) : Below B w (W.setRow g cs) :=
  h.trans ⟨rfl, rfl, rfl, by rw [setRow_size]; omega, fun k hk => setRow_other W g k cs (by omega)⟩

/-! ### a block of cells -/
def Blk (w : World) (b : Nat) (cs : List Value) (t : TypeId) : Prop := w.heap[b]? = some (.cells cs.toArray t (0, 0))
theorem Blk.lt {w : World} {b : Nat} {cs : List Value} {t : TypeId} (h : Blk w b cs t) : b < w.heap.size := (Array.getElem?_eq_some_iff.1 h).1
theorem Blk.cell {w : World} {b : Nat} {cs : List Value} {t : TypeId} (h : Blk w b cs t) (i : Nat) : w.cell? ⟨b, i, none⟩ = cs[i]? := by
  unfold Blk at h
  simp [World.cell?, h]
theorem Blk.at {w : World} {b : Nat} {cs : List Value} {t : TypeId} (h : Blk w b cs t) (i : Nat) (v : Value) (hi : cs[i]? = some v) : w.cell? ⟨b, i, none⟩ = some v := (h.cell i).trans hi
theorem Blk.frozen {w : World} {b : Nat} {cs : List Value} {t : TypeId} (h : Blk w b cs t) (i : Nat) : w.frozen? ⟨b, i, none⟩ = false := by
  unfold Blk at h
  simp [World.frozen?, h]
theorem Blk.below {w w' : World} {B b : Nat} {cs : List Value} {t : TypeId} (h : Blk w b cs t) (hb : Below B w w') (hB : b < B) : Blk w' b cs t := (hb.block b hB).trans h
theorem Blk.belowS {w w' : World} {b : Nat} {cs : List Value} {t : TypeId} (h : Blk w b cs t) (hb : Below w.heap.size w w') : Blk w' b cs t := h.below hb h.lt
theorem Blk.set {w : World} {b : Nat} {cs : List Value} {t : TypeId} (h : Blk w b cs t) (i : Nat) (v : Value) : Blk (w.setCell ⟨b, i, none⟩ v) b (cs.set i v) t := by
  unfold Blk at *
  simp [World.setCell, Array.getElem?_modify, h]
theorem Blk.far {w : World} {b : Nat} {cs : List Value} {t : TypeId} (h : Blk w b cs t) {a : Addr} (ha : b ≠ a.block) (v : Value) : Blk (w.setCell a v) b cs t := (Below.heap_setCell w a v b ha).trans h
theorem Blk.alloc {w : World} {b : Nat} {cs : List Value} {t : TypeId} (h : Blk w b cs t) (o : Obj) : Blk (w.alloc o) b cs t := (Below.heap_alloc w o b h.lt).trans h
theorem Blk.new (w : World) (cs : List Value) (t : TypeId) : Blk (w.alloc (.cells cs.toArray t)) w.heap.size cs t := by
  unfold Blk
  show (w.heap.push _)[w.heap.size]? = _
  simp

/-! ### w' is w, but for blocks of F and new ones -/
structure Kept (F : Nat → Prop) (w w' : World) : Prop where
  os : w'.os = w.os
  tape : w'.tape = w.tape
  output : w'.output = w.output
  size : w.heap.size ≤ w'.heap.size
  block : ∀ k, k < w.heap.size → ¬ F k → w'.heap[k]? = w.heap[k]?
theorem Kept.refl (F : Nat → Prop) (w : World) : Kept F w w := ⟨rfl, rfl, rfl, Nat.le_refl _, fun _ _ _ => rfl⟩
theorem Kept.trans {F G : Nat → Prop} {a b c : World} (h : Kept F a b) (k : Kept G b c) (hG : ∀ i, i < a.heap.size → G i → F i) : Kept F a c :=
  ⟨k.os.trans h.os, k.tape.trans h.tape, k.output.trans h.output, Nat.le_trans h.size k.size,
   fun i hi hf => (k.block i (Nat.lt_of_lt_of_le hi h.size) (fun g => hf (hG i hi g))).trans (h.block i hi hf)⟩
theorem Kept.of_below {F : Nat → Prop} {w w' : World} (h : Below w.heap.size w w') : Kept F w w' := ⟨h.os, h.tape, h.output, h.size, fun i hi _ => h.block i hi⟩
theorem Kept.blk {F : Nat → Prop} {w w' : World} (h : Kept F w w') {b : Nat} {cs : List Value} {t : TypeId} (hb : Blk w b cs t) (hf : ¬ F b) : Blk w' b cs t := (h.block b hb.lt hf).trans hb
theorem Kept.below {F : Nat → Prop} {w w' : World} (h : Kept F w w') {B : Nat} (hB : B ≤ w.heap.size) (hF : ∀ k, k < B → ¬ F k) : Below B w w' :=
  ⟨h.os, h.tape, h.output, h.size, fun k hk => h.block k (Nat.lt_of_lt_of_le hk hB) (hF k hk)⟩

/-! ### slices that are read -/
/-- How one element lies: its cells; 'ok': in what blocks. -/
structure El (α : Type) where
  sz : Nat
  R : World → (Nat → Prop) → α → List Value → Prop
  len : ∀ {w : World} {ok : Nat → Prop} {x : α} {cs : List Value}, R w ok x cs → cs.length = sz
  keep : ∀ {w w' : World} {ok : Nat → Prop} {x : α} {cs : List Value}, R w ok x cs → (∀ b, ok b → b < w.heap.size → w'.heap[b]? = w.heap[b]?) → R w' ok x cs
  weak : ∀ {w : World} {ok ok' : Nat → Prop} {x : α} {cs : List Value}, R w ok x cs → (∀ b, ok b → b < w.heap.size → ok' b) → R w ok' x cs

/-- A slice value that reads as a list. -/
def Sl {α : Type} (k : El α) (w : World) (ok : Nat → Prop) (v : Value) (xs : List α) : Prop :=
  ∃ A c, v = .slice A xs.length c ∧ xs.length ≤ c ∧ c ≤ 9223372036854775807 ∧
    (0 < xs.length → ∃ b o, A = some ⟨b, o, none⟩ ∧ ok b ∧ ∀ j (h : j < xs.length), ∃ cs, k.R w ok xs[j] cs ∧ ∀ i, i < k.sz → w.cell? ⟨b, o + j * k.sz + i, none⟩ = cs[i]?)

theorem Sl.keep {α : Type} {k : El α} {w w' : World} {ok : Nat → Prop} {v : Value} {xs : List α} (h : Sl k w ok v xs) (hk : ∀ b, ok b → b < w.heap.size → w'.heap[b]? = w.heap[b]?) (hs : 0 < k.sz) : Sl k w' ok v xs := by
  obtain ⟨A, c, hv, h1, h2, h3⟩ := h
  refine ⟨A, c, hv, h1, h2, fun hp => ?_⟩
  obtain ⟨b, o, hA, hb, hc⟩ := h3 hp
  refine ⟨b, o, hA, hb, fun j hj => ?_⟩
  obtain ⟨cs, hR, hcs⟩ := hc j hj
  refine ⟨cs, k.keep hR hk, fun i hi => ?_⟩
  rw [← hcs i hi]
  have hlt : b < w.heap.size := by
    have h0 := hcs 0 hs
    rw [List.getElem?_eq_getElem (by rw [k.len hR]; exact hs)] at h0
    exact World.block_lt_of_cell? w _ h0
  exact World.cell?_of_block (w := w) (hk b hb hlt)
theorem Sl.weak {α : Type} {k : El α} {w : World} {ok ok' : Nat → Prop} {v : Value} {xs : List α} (h : Sl k w ok v xs) (hk : ∀ b, ok b → b < w.heap.size → ok' b) (hs : 0 < k.sz) : Sl k w ok' v xs := by
  obtain ⟨A, c, hv, h1, h2, h3⟩ := h
  refine ⟨A, c, hv, h1, h2, fun hp => ?_⟩
  obtain ⟨b, o, hA, hb, hc⟩ := h3 hp
  have hlt : b < w.heap.size := by
    obtain ⟨cs, hR, hcs⟩ := hc 0 hp
    have h0 := hcs 0 hs
    rw [List.getElem?_eq_getElem (by rw [k.len hR]; exact hs)] at h0
    exact World.block_lt_of_cell? w _ h0
  refine ⟨b, o, hA, hk b hb hlt, fun j hj => ?_⟩
  obtain ⟨cs, hR, hcs⟩ := hc j hj
  exact ⟨cs, k.weak hR hk, hcs⟩
theorem Sl.below {α : Type} {k : El α} {w w' : World} {ok : Nat → Prop} {v : Value} {xs : List α} (h : Sl k w ok v xs) (hb : Below w.heap.size w w') (hs : 0 < k.sz) : Sl k w' ok v xs :=
  h.keep (fun b _ hlt => hb.block b hlt) hs
theorem Sl.kept {α : Type} {k : El α} {w w' : World} {F ok : Nat → Prop} {v : Value} {xs : List α} (h : Sl k w ok v xs) (hb : Kept F w w') (hF : ∀ b, ok b → ¬ F b) (hs : 0 < k.sz) : Sl k w' ok v xs :=
  h.keep (fun b ho hlt => hb.block b hlt (hF b ho)) hs

theorem Sl.heap {α : Type} {k : El α} {w w' : World} {ok : Nat → Prop} {v : Value} {xs : List α} (h : Sl k w ok v xs) (he : w'.heap = w.heap) (hs : 0 < k.sz) : Sl k w' ok v xs :=
  h.keep (fun b _ _ => by rw [he]) hs

/-- Elements of one cell. -/
def elOne {α : Type} (enc : α → Value) : El α where
  sz := 1
  R := fun _ _ x cs => cs = [enc x]
  len := fun h => by rw [h]; rfl
  keep := fun h _ => h
  weak := fun h _ => h
/-- A slice in one cell. -/
def elSl {α : Type} (k : El α) (hs : 0 < k.sz) : El (List α) where
  sz := 1
  R := fun w ok xs cs => ∃ v, cs = [v] ∧ Sl k w ok v xs
  len := fun ⟨v, h, _⟩ => by rw [h]; rfl
  keep := fun ⟨v, h, hv⟩ hk => ⟨v, h, hv.keep hk hs⟩
  weak := fun ⟨v, h, hv⟩ hk => ⟨v, h, hv.weak hk hs⟩
def elU8 : El UInt8 := elOne fun b => .int .u8 b.toNat
def elU64 : El Nat := elOne fun n => .int .u64 n
def elInt : El Int := elOne fun n => .int .i64 n
def elStr : El ByteArray := elOne fun s => .string s

/-- Of elements of one cell: the value's form, and each cell. -/
theorem Sl.one {α : Type} {enc : α → Value} {w : World} {ok : Nat → Prop} {v : Value} {xs : List α} (h : Sl (elOne enc) w ok v xs) :
    ∃ A c, v = .slice A xs.length c ∧ xs.length ≤ c ∧ c ≤ 9223372036854775807 ∧
      (0 < xs.length → ∃ b o, A = some ⟨b, o, none⟩ ∧ ok b ∧ ∀ j (h : j < xs.length), w.cell? ⟨b, o + j, none⟩ = some (enc xs[j])) := by
  obtain ⟨A, c, hv, h1, h2, h3⟩ := h
  refine ⟨A, c, hv, h1, h2, fun hp => ?_⟩
  obtain ⟨b, o, hA, hb, hc⟩ := h3 hp
  refine ⟨b, o, hA, hb, fun j hj => ?_⟩
  obtain ⟨cs, hR, hcs⟩ := hc j hj
  have h0 := hcs 0 Nat.one_pos
  have hR' : cs = [enc xs[j]] := hR
  subst hR'
  simpa [elOne] using h0
theorem Sl.mk1 {α : Type} {enc : α → Value} {w : World} {ok : Nat → Prop} {xs : List α} {A : Option Addr} {n c : Nat} (hn : xs.length = n) (h1 : n ≤ c) (h2 : c ≤ 9223372036854775807)
    (h3 : 0 < n → ∃ b o, A = some ⟨b, o, none⟩ ∧ ok b ∧ ∀ j (h : j < xs.length), w.cell? ⟨b, o + j, none⟩ = some (enc xs[j])) : Sl (elOne enc) w ok (.slice A n c) xs := by
  subst hn
  refine ⟨A, c, rfl, h1, h2, fun hp => ?_⟩
  obtain ⟨b, o, hA, hb, hc⟩ := h3 hp
  refine ⟨b, o, hA, hb, fun j hj => ⟨[enc xs[j]], rfl, fun i hi => ?_⟩⟩
  have : i = 0 := by simp [elOne] at hi; exact hi
  subst this
  simpa [elOne] using hc j hj
theorem Sl.nil {α : Type} {k : El α} {w : World} {ok : Nat → Prop} {A : Option Addr} {c : Nat} (hc : c ≤ 9223372036854775807) : Sl k w ok (.slice A 0 c) [] :=
  ⟨A, c, rfl, by simp, hc, fun h => absurd h (by simp)⟩

end Go.Proofs.YtocmnhjgknaocaaDoor
