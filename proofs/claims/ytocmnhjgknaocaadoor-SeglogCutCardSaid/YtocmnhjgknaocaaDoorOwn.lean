import Derived.Test.YtocmnhjgknaocaaDoorFrame2
set_option linter.unusedVariables false
set_option linter.unusedSimpArgs false
namespace Go.Proofs.YtocmnhjgknaocaaDoor
open Go.RowKit Tb

theorem flatten_get {α : Type} : ∀ (css : List (List α)) (sz : Nat), (∀ cs ∈ css, cs.length = sz) → ∀ j (h : j < css.length) i, i < sz → css.flatten[j * sz + i]? = css[j][i]?
  | [], _, _, j, h, _, _ => absurd h (by simp)
  | cs :: css, sz, hl, 0, h, i, hi => by
    rw [List.flatten_cons, Nat.zero_mul, Nat.zero_add, List.getElem?_append_left (by rw [hl cs (by simp)]; exact hi)]
    rfl
  | cs :: css, sz, hl, j + 1, h, i, hi => by
    have hc : cs.length = sz := hl cs (by simp)
    rw [List.flatten_cons, List.getElem?_append_right (by rw [hc, Nat.succ_mul]; omega), hc, show (j + 1) * sz + i - sz = j * sz + i from by rw [Nat.succ_mul]; omega]
    exact flatten_get css sz (fun c hc => hl c (by simp [hc])) j (by simpa using h) i hi
theorem flatten_len {α : Type} : ∀ (css : List (List α)) (sz : Nat), (∀ cs ∈ css, cs.length = sz) → css.flatten.length = css.length * sz
  | [], _, _ => by simp
  | cs :: css, sz, hl => by
    rw [List.flatten_cons, List.length_append, hl cs (by simp), flatten_len css sz (fun c hc => hl c (by simp [hc])), List.length_cons, Nat.succ_mul]; omega

/-- Elements that are owned, from a block on; what they refer to lies from there on too, beside the row. -/
def OwnL {α : Type} (k : El α) (t : TypeId) (w : World) (base : Nat) (v : Value) (xs : List α) : Prop :=
  ∃ css : List (List Value), css.length = xs.length ∧ (∀ j (h : j < xs.length) (h2 : j < css.length), k.R w (fun b => base ≤ b ∧ some b ≠ v.ownBlock) xs[j] css[j]) ∧ w.ownsRow base t k.sz v xs.length css.flatten
theorem OwnL.nil {α : Type} (k : El α) (t : TypeId) (w : World) (base : Nat) : OwnL k t w base (.slice none 0 0) [] := ⟨[], rfl, fun j h => absurd h (by simp), World.ownsRow_nil _ _ _ _⟩
theorem OwnL.lens {α : Type} {k : El α} {w : World} {ok : Nat → Prop} {xs : List α} {css : List (List Value)} (hl : css.length = xs.length) (h : ∀ j (h : j < xs.length) (h2 : j < css.length), k.R w ok xs[j] css[j]) : ∀ cs ∈ css, cs.length = k.sz := by
  intro cs hcs
  obtain ⟨j, hj, rfl⟩ := List.mem_iff_getElem.1 hcs
  exact k.len (h j (by omega) hj)
theorem OwnL.sl {α : Type} {k : El α} {t : TypeId} {w : World} {base : Nat} {v : Value} {xs : List α} (h : OwnL k t w base v xs) : Sl k w (fun b => base ≤ b) v xs := by
  obtain ⟨css, hl, hR, ho⟩ := h
  have hlen := OwnL.lens hl hR
  rcases ho.2 with ⟨rfl, hn⟩ | ⟨g, cap, cur, rfl, hb, hh, h1, h2, h3, h4⟩
  · obtain rfl : xs = [] := List.eq_nil_of_length_eq_zero hn
    exact Sl.nil (by omega)
  · refine ⟨_, cap, rfl, h1, by simpa [maxLen] using h2, fun hp => ⟨g, 0, rfl, hb, fun j hj => ?_⟩⟩
    have hj2 : j < css.length := by omega
    refine ⟨css[j], k.weak (hR j hj hj2) (fun b hb _ => hb.1), fun i hi => ?_⟩
    have hfl := flatten_get css k.sz hlen j hj2 i hi
    rw [← hfl, ← h4]
    have hlt : j * k.sz + i < xs.length * k.sz := by
      have : (j + 1) * k.sz ≤ xs.length * k.sz := Nat.mul_le_mul_right _ hj
      rw [Nat.succ_mul] at this
      omega
    rw [List.getElem?_take_of_lt hlt]
    simp [World.cell?, hh]
theorem OwnL.below {α : Type} {k : El α} {t : TypeId} {w w1 : World} {base : Nat} {v : Value} {xs : List α} (h : OwnL k t w base v xs) (hb : Below w.heap.size w w1) : OwnL k t w1 base v xs := by
  obtain ⟨css, hl, hR, ho⟩ := h
  exact ⟨css, hl, fun j h h2 => k.keep (hR j h h2) (fun b _ hlt => hb.block b hlt), own_below ho hb⟩
theorem OwnL.less {α : Type} {k : El α} {t : TypeId} {w : World} {base b : Nat} {v : Value} {xs : List α} (h : OwnL k t w b v xs) (hle : base ≤ b) : OwnL k t w base v xs := by
  obtain ⟨css, hl, hR, ho⟩ := h
  refine ⟨css, hl, fun j h h2 => k.weak (hR j h h2) (fun c hc _ => ⟨Nat.le_trans hle hc.1, hc.2⟩), ho.1, ?_⟩
  rcases ho.2 with h2 | ⟨g, cap, cur, hv, hg, r⟩
  · exact .inl h2
  · exact .inr ⟨g, cap, cur, hv, Nat.le_trans hle hg, r⟩
theorem OwnL.ne {α : Type} {k : El α} {t : TypeId} {w : World} {base : Nat} {v : Value} {xs : List α} (h : OwnL k t w base v xs) {b : Nat} (hb : w.heap.size ≤ b) : base ≤ b ∧ some b ≠ v.ownBlock ∨ w.heap.size < base := by
  by_cases hlt : w.heap.size < base
  · exact .inr hlt
  · refine .inl ⟨by omega, fun e => ?_⟩
    obtain ⟨css, _, _, ho⟩ := h
    have := (ho.lt b e.symm).2
    omega
/-- One more at the end. -/
theorem OwnL.snoc {α : Type} {k : El α} {t : TypeId} {W w1 : World} {base : Nat} {v v1 : Value} {xs : List α} {css : List (List Value)} {x : α} {news : List Value} (hl : css.length = xs.length)
    (hR : ∀ j (h : j < xs.length) (h2 : j < css.length), k.R W (fun b => base ≤ b ∧ some b ≠ v.ownBlock) xs[j] css[j]) (hx : k.R W (fun b => base ≤ b ∧ some b ≠ v.ownBlock) x news)
    (hown : w1.ownsRow base t k.sz v1 (xs.length + 1) (css.flatten ++ news)) (hg : W.grownBy w1 v.ownBlock) (hlie : Lies W.heap.size v v1) : OwnL k t w1 base v1 (xs ++ [x]) := by
  have hkeep : ∀ {y : α} {cs : List Value}, k.R W (fun b => base ≤ b ∧ some b ≠ v.ownBlock) y cs → k.R w1 (fun b => base ≤ b ∧ some b ≠ v1.ownBlock) y cs := by
    intro y cs h
    have h2 := k.weak h (ok' := fun b => (base ≤ b ∧ some b ≠ v.ownBlock) ∧ some b ≠ v1.ownBlock) (by
      intro b hb hlt
      refine ⟨hb, ?_⟩
      rcases hlie with e | ⟨c, e, hc⟩
      · rw [e]; exact hb.2
      · rw [e]; intro e2; injection e2 with e2; omega)
    exact k.weak (k.keep h2 (fun b hb hlt => hg.block b hlt hb.1.2)) (fun b hb _ => ⟨hb.1.1, hb.2⟩)
  refine ⟨css ++ [news], by simp [hl], ?_, ?_⟩
  · intro j h h2
    by_cases hj : j < xs.length
    · rw [List.getElem_append_left hj, List.getElem_append_left (by omega)]
      exact hkeep (hR j hj (by omega))
    · have hj2 : j = xs.length := by simp at h; omega
      subst hj2
      have e1 : (xs ++ [x])[xs.length] = x := by simp
      have e2 : (css ++ [news])[xs.length] = news := by simp [← hl]
      rw [e1, e2]
      exact hkeep hx
  · simpa using hown

end Go.Proofs.YtocmnhjgknaocaaDoor
