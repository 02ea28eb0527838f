import Derived.Test.YtocmnhjgknaocaaDoorOwn
set_option linter.unusedVariables false
set_option linter.unusedSimpArgs false
namespace Go.Proofs.YtocmnhjgknaocaaDoor
open Go.RowKit Tb

/-- Elements that are owned; what they refer to lies from the block on, beside the row, and meets X. -/
def OwnX {α : Type} (k : El α) (t : TypeId) (w : World) (base : Nat) (X : Nat → Prop) (v : Value) (xs : List α) : Prop :=
  ∃ css : List (List Value), css.length = xs.length ∧ (∀ j (h : j < xs.length) (h2 : j < css.length), k.R w (fun b => base ≤ b ∧ some b ≠ v.ownBlock ∧ X b) xs[j] css[j]) ∧ w.ownsRow base t k.sz v xs.length css.flatten
theorem OwnX.nil {α : Type} (k : El α) (t : TypeId) (w : World) (base : Nat) (X : Nat → Prop) : OwnX k t w base X (.slice none 0 0) [] := ⟨[], rfl, fun j h => absurd h (by simp), World.ownsRow_nil _ _ _ _⟩
theorem OwnX.l {α : Type} {k : El α} {t : TypeId} {w : World} {base : Nat} {X : Nat → Prop} {v : Value} {xs : List α} (h : OwnX k t w base X v xs) : OwnL k t w base v xs := by
  obtain ⟨css, hl, hR, ho⟩ := h
  exact ⟨css, hl, fun j h h2 => k.weak (hR j h h2) (fun c hc _ => ⟨hc.1, hc.2.1⟩), ho⟩
theorem OwnX.lt {α : Type} {k : El α} {t : TypeId} {w : World} {base : Nat} {X : Nat → Prop} {v : Value} {xs : List α} (h : OwnX k t w base X v xs) : ∀ b, v.ownBlock = some b → base ≤ b ∧ b < w.heap.size := by
  obtain ⟨css, _, _, ho⟩ := h
  exact ho.lt
theorem OwnX.weakX {α : Type} {k : El α} {t : TypeId} {w : World} {base : Nat} {X Y : Nat → Prop} {v : Value} {xs : List α} (h : OwnX k t w base X v xs) (hXY : ∀ b, base ≤ b → X b → b < w.heap.size → Y b) : OwnX k t w base Y v xs := by
  obtain ⟨css, hl, hR, ho⟩ := h
  exact ⟨css, hl, fun j h h2 => k.weak (hR j h h2) (fun c hc hlt => ⟨hc.1, hc.2.1, hXY c hc.1 hc.2.2 hlt⟩), ho⟩
/-- Another row has grown. -/
theorem OwnX.grown {α : Type} {k : El α} {t : TypeId} {w w1 : World} {base : Nat} {X : Nat → Prop} {v : Value} {xs : List α} {row : Option Nat} (h : OwnX k t w base X v xs) (hg : w.grownBy w1 row) (hne : v.ownBlock = none ∨ v.ownBlock ≠ row) (hX : ∀ b, X b → some b ≠ row) : OwnX k t w1 base X v xs := by
  obtain ⟨css, hl, hR, ho⟩ := h
  exact ⟨css, hl, fun j h h2 => k.keep (hR j h h2) (fun b hb hlt => hg.block b hlt (hX b hb.2.2)), ho.kept hg hne⟩
theorem OwnX.below {α : Type} {k : El α} {t : TypeId} {w w1 : World} {base : Nat} {X : Nat → Prop} {v : Value} {xs : List α} (h : OwnX k t w base X v xs) (hb : Below w.heap.size w w1) : OwnX k t w1 base X v xs := by
  obtain ⟨css, hl, hR, ho⟩ := h
  exact ⟨css, hl, fun j h h2 => k.keep (hR j h h2) (fun b _ hlt => hb.block b hlt), own_below ho hb⟩
theorem OwnX.snoc {α : Type} {k : El α} {t : TypeId} {W w1 : World} {base : Nat} {X : Nat → Prop} {v v1 : Value} {xs : List α} {css : List (List Value)} {x : α} {news : List Value} (hl : css.length = xs.length)
    (hR : ∀ j (h : j < xs.length) (h2 : j < css.length), k.R W (fun b => base ≤ b ∧ some b ≠ v.ownBlock ∧ X b) xs[j] css[j]) (hx : k.R W (fun b => base ≤ b ∧ some b ≠ v.ownBlock ∧ X b) x news)
    (hown : w1.ownsRow base t k.sz v1 (xs.length + 1) (css.flatten ++ news)) (hg : W.grownBy w1 v.ownBlock) (hlie : Lies W.heap.size v v1) : OwnX k t w1 base X v1 (xs ++ [x]) := by
  have hkeep : ∀ {y : α} {cs : List Value}, k.R W (fun b => base ≤ b ∧ some b ≠ v.ownBlock ∧ X b) y cs → k.R w1 (fun b => base ≤ b ∧ some b ≠ v1.ownBlock ∧ X b) y cs := by
    intro y cs h
    have h2 := k.weak h (ok' := fun b => (base ≤ b ∧ some b ≠ v.ownBlock ∧ X b) ∧ some b ≠ v1.ownBlock) (by
      intro b hb hlt
      refine ⟨hb, ?_⟩
      rcases hlie with e | ⟨c, e, hc⟩
      · rw [e]; exact hb.2.1
      · rw [e]; intro e2; injection e2 with e2; omega)
    exact k.weak (k.keep h2 (fun b hb hlt => hg.block b hlt hb.1.2.1)) (fun b hb _ => ⟨hb.1.1, hb.2, hb.1.2.2⟩)
  refine ⟨css ++ [news], by simp [hl], ?_, ?_⟩
  · intro j h h2
    by_cases hj : j < xs.length
    · rw [List.getElem_append_left hj, List.getElem_append_left (by omega)]
      exact hkeep (hR j hj (by omega))
    · have hj2 : j = xs.length := by simp at h; omega
      subst hj2
      have e1 : (xs ++ [x])[xs.length] = x := by simp
      have e2 : (css ++ [news])[xs.length] = news := by simp [← hl]
      rw [e1, e2]
      exact hkeep hx
  · simpa using hown
/-- Two rows apart. -/
def Apart (u v : Value) : Prop := ∀ b, u.ownBlock = some b → v.ownBlock ≠ some b
theorem Apart.symm {u v : Value} (h : Apart u v) : Apart v u := fun b h1 h2 => h b h2 h1
theorem Apart.ne {u v : Value} (h : Apart u v) : u.ownBlock = none ∨ u.ownBlock ≠ v.ownBlock := by
  rcases hb : u.ownBlock with _ | b
  · exact .inl rfl
  · exact .inr fun e => h b hb e.symm
theorem Apart.lies {n : Nat} {u v v1 : Value} (ha : Apart u v) (h : Lies n v v1) (hu : ∀ b, u.ownBlock = some b → b < n) : Apart u v1 := by
  intro b hb hc
  rcases h with e | ⟨c, e, hc2⟩
  · rw [e] at hc; exact ha b hb hc
  · rw [e] at hc; injection hc with hc; have := hu b hb; omega
theorem apart_nil (v : Value) : Apart (.slice none 0 0) v := fun b h => by cases h

end Go.Proofs.YtocmnhjgknaocaaDoor
