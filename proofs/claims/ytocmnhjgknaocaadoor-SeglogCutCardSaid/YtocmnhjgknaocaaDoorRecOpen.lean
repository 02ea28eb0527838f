import Derived.Test.YtocmnhjgknaocaaDoorLaw
import Derived.Test.YtocmnhjgknaocaaDoorLog1
import Derived.OpenShut
import Derived.Deep.Strs
import Derived.Test.YtocmnhjgknaocaaDoorRec2
set_option linter.unusedVariables false
namespace Go.Proofs.YtocmnhjgknaocaaDoor
open Go.ChangeShapes Go.WideShapes Go.ChangeAt Go.RowKit

/-- What the rows of segments list. -/
abbrev laidT : List (String × DataW Unit) := [("math/bits.deBruijn32tab", Rows.laid_math_bits_deBruijn32tab), ("math/bits.deBruijn64tab", Rows.laid_math_bits_deBruijn64tab), ("internal/strconv.uint64pow10", Rows.laid_internal_strconv_uint64pow10)]
set_option maxRecDepth 100000 in
theorem doorT_met (os : Os) (args : Array Value) : laidMetH Tryd.prog laidT ((World.doorLaid Tryd.prog 62 os).forCall (fun _ _ => 0) ⟨#[], args, []⟩).memory :=
  laidMetH_of_parts3 (fuel := 8) (laidMet_of_run' 8 (by kernel_rfl) (by kernel_rfl)) (by kernel_rfl) (by kernel_rfl)
theorem tab_of_laid {W : World} (h : laidMetH Tryd.prog laidT W) : Tab W := by
  rw [MakeChecks.laidMetH_plain _ _ _ (by kernel_rfl)] at h
  exact Lib.tabIs_of_head Tryd.gPow Tryd.tPow Tryd.underlying199 Tryd.underlying22 Tryd.cU64 Tryd.cPow h.tail.tail

end Go.Proofs.YtocmnhjgknaocaaDoor

set_option linter.unusedVariables false
set_option linter.unusedSimpArgs false
set_option maxRecDepth 100000
namespace Go.Proofs.YtocmnhjgknaocaaDoor
open Go.ChangeShapes Go.WideShapes Go.RowKit Go.Deep Tb

/-! ### records that came in as arguments -/
theorem Tryd.c1U64 : Tryd.prog.cellsOf 22 = 1 := by kernel_rfl
theorem Tryd.c3Rec : Tryd.prog.cellsOf 26 = 3 := by kernel_rfl
theorem Tryd.c1Int : Tryd.prog.cellsOf 3 = 1 := by kernel_rfl
theorem Tryd.c1Nums : Tryd.prog.cellsOf 24 = 1 := by kernel_rfl
theorem Tryd.c1Text : Tryd.prog.cellsOf 9 = 1 := by kernel_rfl
theorem list3 {α : Type} {l : List α} (h : l.length = 3) : ∃ a b c, l = [a, b, c] := by
  match l, h with
  | [a, b, c], _ => exact ⟨a, b, c, rfl⟩
section
variable {H : Type} {enc : TypeId × Value → H} {W : World} {sp : Nat → Bool} {held : Bool}
theorem nums_of_trod {fuel : Nat} {cs : List Value} {x : DataW H × List MemPlace} (h : DataW.trod enc Tryd.prog W 0 sp held fuel 24 cs = some x) :
    ∃ v ns, cs = [v] ∧ Sl elU64 W (fun b => b < W.heap.size) v ns ∧ ∀ n ∈ ns, n < 2 ^ 64 := by
  rcases open_ints Tryd.underlying24 Tryd.underlying22 Tryd.c1U64 h with ⟨rfl, _⟩ | ⟨a, len, cap, zs, rfl, _, hl, hm, hz, _, hcell, hwz⟩
  · exact ⟨_, [], rfl, Sl.nil (by omega), by simp⟩
  · have hlz : len ≤ zs.length := by rw [hz]; split <;> omega
    refine ⟨_, (zs.take len).map Int.toNat, rfl, Sl.weak (ok := fun _ => True) (Sl.mk1 (by simp; omega) hl (by unfold maxLen at hm; omega) fun hp => ?_) (fun b _ hlt => hlt) Nat.one_pos, ?_⟩
    · obtain ⟨b, off, rfl, hc⟩ := ints_at hcell (by omega)
      refine ⟨b, off, rfl, trivial, fun j hj => ?_⟩
      have hj2 : j < zs.length := by simp at hj; omega
      rw [hc j hj2]
      have h1 := bounds_u64 (hwz zs[j] (List.getElem_mem _))
      simp only [List.getElem_map, List.getElem_take, List.getD_eq_getElem?_getD, List.getElem?_eq_getElem hj2, Option.getD_some]
      rw [Int.toNat_of_nonneg h1.1]
    · intro n hn
      obtain ⟨z, hz2, rfl⟩ := List.mem_map.1 hn
      have h1 := bounds_u64 (hwz z (List.mem_of_mem_take hz2))
      omega
theorem rec_of_trod {fuel : Nat} {cs : List Value} {x : DataW H × List MemPlace} (h : DataW.trod enc Tryd.prog W 0 sp held fuel 26 cs = some x) :
    ∃ (r : Rec) (u : Value), cs = [.int .i64 r.kind, u, .string ⟨r.text.toArray⟩] ∧ Sl elU64 W (fun b => b < W.heap.size) u r.n ∧ ∀ n ∈ r.n, n < 2 ^ 64 := by
  obtain ⟨y0, y1, y2, n, rfl, hl, h0, h1, h2⟩ := trod_struct3 Tryd.underlying26 h
  rw [Tryd.c3Rec] at hl
  obtain ⟨c0, c1, c2, rfl⟩ := list3 hl
  simp only [Tryd.c1Int, Tryd.c1Nums, Tryd.c1Text, List.drop_zero, List.drop_succ_cons, List.take_succ_cons, List.take_zero] at h0 h1 h2
  obtain ⟨k, e0, _, _⟩ := DataW.trod_int Tryd.underlying3 h0
  obtain ⟨u, ns, e1, hs, hn⟩ := nums_of_trod h1
  obtain ⟨⟨⟨t⟩⟩, e2, _, _⟩ := DataW.trod_string Tryd.underlying9 h2
  simp only [List.cons.injEq, and_true] at e0 e1 e2
  subst e0 e1 e2
  exact ⟨⟨k, ns, t⟩, _, rfl, hs, hn⟩
theorem recs_of_trod {fuel : Nat} {cs : List Value} {x : DataW H × List MemPlace} (h : DataW.trod enc Tryd.prog W 0 sp held fuel 23 cs = some x) :
    ∃ v rs, cs = [v] ∧ Sl elRec W (fun b => b < W.heap.size) v rs ∧ ∀ r ∈ rs, ∀ n ∈ r.n, n < 2 ^ 64 := by
  rcases open_slice Tryd.underlying23 h with ⟨rfl, _⟩ | ⟨a, len, cap, m, n, D, Pl, rfl, _, hl, hm, hmm, _, hx⟩
  · exact ⟨_, [], rfl, Sl.nil (by omega), by simp⟩
  · have hlm : len ≤ m := by rw [hmm]; split <;> omega
    have hrec : ∀ i, i < len → ∃ ru : Rec × Value, (∀ j, j < 3 → W.cell? (a.add (i * 3 + j)) = [Value.int .i64 ru.1.kind, ru.2, .string ⟨ru.1.text.toArray⟩][j]?) ∧ Sl elU64 W (fun b => b < W.heap.size) ru.2 ru.1.n ∧ ∀ n ∈ ru.1.n, n < 2 ^ 64 := by
      intro i hi
      obtain ⟨cs', h1, h2⟩ := hx i (by omega)
      obtain ⟨r, u, rfl, hs, hn⟩ := rec_of_trod h2
      rw [Tryd.c3Rec] at h1
      obtain ⟨_, _, hc⟩ := World.cells?_some h1
      exact ⟨(r, u), fun j hj => by rw [← Go.Deep.add_add]; exact hc j hj, hs, hn⟩
    have : Inhabited (Rec × Value) := ⟨(⟨0, [], []⟩, undef)⟩
    obtain ⟨f, hf⟩ := choose_lt hrec
    refine ⟨_, (List.range len).map fun i => (f i).1, rfl, Sl.weak (ok := fun b => b < W.heap.size ∨ ∃ o, a = ⟨b, o, none⟩) ?_ (fun b _ hlt => hlt) (by decide), ?_⟩
    · refine ⟨some a, cap, by simp, by simpa using hl, by unfold maxLen at hm; omega, fun hp => ?_⟩
      have hp2 : 0 < len := by simpa using hp
      obtain ⟨b, off, spot⟩ := a
      have hspot : spot = none := by simpa [Addr.add] using World.cell?_spot ((hf 0 hp2).1 0 (by decide))
      subst hspot
      refine ⟨b, off, rfl, .inr ⟨off, rfl⟩, fun j hj => ?_⟩
      have hj2 : j < len := by simpa using hj
      obtain ⟨h1, h2, h3⟩ := hf j hj2
      refine ⟨[.int .i64 (f j).1.kind, (f j).2, .string ⟨(f j).1.text.toArray⟩], ?_, fun i hi => ?_⟩
      · rw [List.getElem_map, List.getElem_range]
        exact ⟨(f j).2, rfl, h2.weak (fun b hb _ => .inl hb) Nat.one_pos⟩
      · have := h1 i hi
        rw [Go.WideShapes.add_plain, ← Nat.add_assoc] at this
        exact this
    · intro r hr
      obtain ⟨i, hi, rfl⟩ := List.mem_map.1 hr
      exact (hf i (by simpa using hi)).2.2
end

end Go.Proofs.YtocmnhjgknaocaaDoor
