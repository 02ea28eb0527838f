import Derived.Test.YtocmnhjgknaocaaDoorBase
import Derived.Maps.AppendAt
import Derived.OwnWalk
set_option linter.unusedVariables false
set_option linter.unusedSimpArgs false
namespace Go.Proofs.YtocmnhjgknaocaaDoor
open Go.RowKit

/-- Where a slice lies behind an append: where it lay, or in new memory. -/
def Lies (n : Nat) (v v1 : Value) : Prop := v1.ownBlock = v.ownBlock ∨ ∃ b, v1.ownBlock = some b ∧ n ≤ b
theorem own_base {w : World} {base : Nat} {e : TypeId} {size n : Nat} {v : Value} {xs : List Value} (h : w.ownsRow base e size v n xs) (k : Nat) (hk : v.ownBlock = some k) : base ≤ k := (h.lt k hk).1
theorem own_below {w w1 : World} {base : Nat} {e : TypeId} {size n : Nat} {v : Value} {xs : List Value} (h : w.ownsRow base e size v n xs) (hb : Below w.heap.size w w1) : w1.ownsRow base e size v n xs :=
  h.kept (row := none) ⟨hb.os, hb.tape, hb.output, hb.size, fun i hi _ => hb.block i hi⟩ (by cases v.ownBlock <;> simp)
theorem below_own {w0 W w1 : World} {base : Nat} {e : TypeId} {size n : Nat} {v : Value} {xs : List Value} (HB : Below base w0 W) (hbase : base ≤ W.heap.size) (HO : W.ownsRow base e size v n xs) (hg : W.grownBy w1 v.ownBlock) : Below base w0 w1 :=
  HB.grown hg hbase (own_base HO)

/-! ### append(v, x): the goal's world bears the box of x -/
section
variable {P : Program} {ops : Array Oper} {rest : List Oper} {o : Oper} {a : Act} {Q : Exit → Act → World → Prop}
theorem wp_app_cells {K : Act → World → Prop} {W : World} (base : Nat) (hgd : o.guard = none) (s x : Operand) (t e : TypeId) (z : Value) (size bytes : Nat)
    (ho : o.op = .call { callee := .builtin .append, args := #[s, x], argTypes := #[t, t] })
    (ht : P.underlying t = some (.slice e)) (hinfo : (P.info? e).map (fun i => (i.zero, i.size, i.bytes)) = some (some z, size, bytes)) (hz : z.cells.size = size) (hs0 : 0 < size)
    (v : Value) (n : Nat) (xs : List Value) (news : List Value) (hs : a.eval s = v) (hx : a.eval x = .slice (some ⟨W.heap.size, 0, none⟩) 1 1) (h1 : ∀ u ∈ news, u.oneCell' = true) (hnl : news.length = size)
    (HO : W.ownsRow base e size v n xs) (hbase : base ≤ W.heap.size) (hl : n + 1 ≤ maxLen) (hl2 : (n + 1) * bytes ≤ 140737488355328)
    (h : ∀ v1 w1, w1.ownsRow base e size v1 (n + 1) (xs ++ news) → W.grownBy w1 v.ownBlock → Lies W.heap.size v v1 → (∃ g c, v1 = .slice (some ⟨g, 0, none⟩) (n + 1) c) → K (a.put o.dst v1) w1) :
    o.wp P a (W.alloc (.cells news.toArray e)) K Q := by
  obtain ⟨i0, hi, hzz⟩ := Option.map_eq_some_iff.1 hinfo
  simp only [Prod.mk.injEq] at hzz
  obtain ⟨hz0, hz1, hz2⟩ := hzz
  have hcell : ∀ j u, news[j]? = some u → (W.alloc (.cells news.toArray e)).cell? ((⟨W.heap.size, 0, none⟩ : Addr).add j) = some u := by
    intro j u hu
    have hadd : (⟨W.heap.size, 0, none⟩ : Addr).add j = ⟨W.heap.size, j, none⟩ := by unfold Addr.add; split <;> simp_all
    rw [hadd, (Blk.new W news e).cell j, hu]
  obtain ⟨v1, w1, hr, hown, hg, hnil, hloc⟩ := run_append_own_at (P := P) (W.alloc (.cells news.toArray e)) base t o.type e i0 z size bytes ht hi hz0 hz1 hz2 hz hs0 v n xs (HO.alloc _) ⟨W.heap.size, 0, none⟩ 1 1 news (by omega) hcell h1 hl hl2 (by simp; omega)
  unfold Oper.wp execOp
  simp only [ho, resolve, invoke, builtin, Sem.run_bind, Sem.run_pure, Result.andThen_ok, List.map_toArray, List.map_cons, List.map_nil, hs, hx, hr]
  refine h v1 w1 hown ?_ ?_ ?_
  · exact ⟨hg.os, hg.tape, hg.output, Nat.le_trans (by simp) hg.size, fun k hk hne => (hg.block k (by simp; omega) hne).trans (Below.heap_alloc W _ k hk)⟩
  · rcases hloc with hloc | hloc
    · exact .inl hloc
    · exact .inr ⟨_, hloc, by simp⟩
  · rcases hown.2 with ⟨_, h0⟩ | ⟨g, cap, cur, hv, _⟩
    · omega
    · exact ⟨g, cap, hv⟩

theorem app_cells {W : World} (base : Nat) (hgd : o.guard = none) (s x : Operand) (t e : TypeId) (z : Value) (size bytes : Nat)
    (ho : o.op = .call { callee := .builtin .append, args := #[s, x], argTypes := #[t, t] })
    (ht : P.underlying t = some (.slice e)) (hinfo : (P.info? e).map (fun i => (i.zero, i.size, i.bytes)) = some (some z, size, bytes)) (hz : z.cells.size = size) (hs0 : 0 < size)
    (v : Value) (n : Nat) (xs : List Value) (news : List Value) (hs : a.eval s = v) (hx : a.eval x = .slice (some ⟨W.heap.size, 0, none⟩) 1 1) (h1 : ∀ u ∈ news, u.oneCell' = true) (hnl : news.length = size)
    (HO : W.ownsRow base e size v n xs) (hbase : base ≤ W.heap.size) (hl : n + 1 ≤ maxLen) (hl2 : (n + 1) * bytes ≤ 140737488355328)
    (h : ∀ v1 w1, w1.ownsRow base e size v1 (n + 1) (xs ++ news) → W.grownBy w1 v.ownBlock → Lies W.heap.size v v1 → (∃ g c, v1 = .slice (some ⟨g, 0, none⟩) (n + 1) c) → wpList P ops Q rest (a.put o.dst v1) w1) :
    wpList P ops Q (o :: rest) a (W.alloc (.cells news.toArray e)) :=
  wpList_plain hgd fun K hK => wp_app_cells base hgd s x t e z size bytes ho ht hinfo hz hs0 v n xs news hs hx h1 hnl HO hbase hl hl2 fun v1 w1 h1 h2 h3 h4 => hK _ _ (h v1 w1 h1 h2 h3 h4)
theorem step_app_cells {W : World} {K : Act → World → Prop} {E : Prop} (base : Nat) (hgd : o.guard = none) (s x : Operand) (t e : TypeId) (z : Value) (size bytes : Nat)
    (ho : o.op = .call { callee := .builtin .append, args := #[s, x], argTypes := #[t, t] })
    (ht : P.underlying t = some (.slice e)) (hinfo : (P.info? e).map (fun i => (i.zero, i.size, i.bytes)) = some (some z, size, bytes)) (hz : z.cells.size = size) (hs0 : 0 < size)
    (v : Value) (n : Nat) (xs : List Value) (news : List Value) (hs : a.eval s = v) (hx : a.eval x = .slice (some ⟨W.heap.size, 0, none⟩) 1 1) (h1 : ∀ u ∈ news, u.oneCell' = true) (hnl : news.length = size)
    (HO : W.ownsRow base e size v n xs) (hbase : base ≤ W.heap.size) (hl : n + 1 ≤ maxLen) (hl2 : (n + 1) * bytes ≤ 140737488355328)
    (h : ∀ v1 w1, w1.ownsRow base e size v1 (n + 1) (xs ++ news) → W.grownBy w1 v.ownBlock → Lies W.heap.size v v1 → (∃ g c, v1 = .slice (some ⟨g, 0, none⟩) (n + 1) c) → K (a.put o.dst v1) w1) :
    if Region.wanted o (yielded ops a.tmps) = true then o.wp P a (W.alloc (.cells news.toArray e)) K Q else E := by
  rw [if_pos (by simp [Region.wanted, hgd])]
  exact wp_app_cells base hgd s x t e z size bytes ho ht hinfo hz hs0 v n xs news hs hx h1 hnl HO hbase hl hl2 h

/-! ### append(v, ys...): ys a slice of elements of one cell, that is read -/
theorem wp_app_row {K : Act → World → Prop} {W : World} {α : Type} {enc : α → Value} (henc : ∀ x, (enc x).oneCell' = true) (base : Nat) (hgd : o.guard = none) (s x : Operand) (t e : TypeId) (z : Value) (bytes : Nat)
    (ho : o.op = .call { callee := .builtin .append, args := #[s, x], argTypes := #[t, t] })
    (ht : P.underlying t = some (.slice e)) (hinfo : (P.info? e).map (fun i => (i.zero, i.size, i.bytes)) = some (some z, 1, bytes)) (hz : z.cells.size = 1)
    (v : Value) (xs ys : List α) (u : Value) (ok : Nat → Prop) (hs : a.eval s = v) (hx : a.eval x = u)
    (HO : W.ownsRow base e 1 v xs.length (xs.map enc)) (HR : Sl (elOne enc) W ok u ys) (hbase : base ≤ W.heap.size) (hl : xs.length + ys.length ≤ maxLen) (hl2 : (xs.length + ys.length) * bytes ≤ 140737488355328)
    (h : ∀ v1 w1, w1.ownsRow base e 1 v1 (xs ++ ys).length ((xs ++ ys).map enc) → W.grownBy w1 v.ownBlock → Lies W.heap.size v v1 → K (a.put o.dst v1) w1) :
    o.wp P a W K Q := by
  obtain ⟨i0, hi, hzz⟩ := Option.map_eq_some_iff.1 hinfo
  simp only [Prod.mk.injEq] at hzz
  obtain ⟨hz0, hz1, hz2⟩ := hzz
  obtain ⟨A, c, rfl, hc1, hc2, hc⟩ := HR.one
  have hrun : ∃ v1 w1, (Builtin.append_ #[t, t] o.type #[v, .slice A ys.length c]).run P W = .ok v1 w1 ∧ w1.ownsRow base e 1 v1 (xs ++ ys).length ((xs ++ ys).map enc) ∧ W.grownBy w1 v.ownBlock ∧ Lies W.heap.size v v1 := by
    rcases Nat.eq_zero_or_pos ys.length with h0 | h0
    · obtain rfl : ys = [] := List.eq_nil_of_length_eq_zero h0
      rcases A with _ | ad
      · refine ⟨v, W, ?_, by simpa using HO, ⟨rfl, rfl, rfl, Nat.le_refl _, fun _ _ _ => rfl⟩, .inl rfl⟩
        rcases HO.2 with ⟨rfl, hn⟩ | ⟨g, cap, cur, rfl, _, _, hnc, _⟩
        · simp [Builtin.append_, run_underlying ht, sizeOf, typeInfo, hi, Builtin.lenOf, Builtin.firstCells]
        · simp [Builtin.append_, run_underlying ht, sizeOf, typeInfo, hi, Builtin.lenOf, Builtin.firstCells, hnc, storeCells]
      · obtain ⟨v1, w1, hr, h2, h3, _, h5⟩ := run_append_own_at (P := P) W base t o.type e i0 z 1 bytes ht hi hz0 hz1 hz2 hz (by omega) v xs.length (xs.map enc) HO ad 0 c [] (by simp) (by intro j u hu; simp at hu) (by intro u hu; cases hu) (by simpa using hl) (by simpa using hl2) hbase
        exact ⟨v1, w1, hr, by simpa using h2, h3, h5.imp id (fun h => ⟨_, h, Nat.le_refl _⟩)⟩
    · obtain ⟨b, off, rfl, hb, hcell⟩ := hc h0
      have hadd : ∀ j, (⟨b, off, none⟩ : Addr).add j = ⟨b, off + j, none⟩ := fun j => by unfold Addr.add; split <;> simp_all
      obtain ⟨v1, w1, hr, h2, h3, _, h5⟩ := run_append_own_at (P := P) W base t o.type e i0 z 1 bytes ht hi hz0 hz1 hz2 hz (by omega) v xs.length (xs.map enc) HO ⟨b, off, none⟩ ys.length c (ys.map enc) (by simp)
        (by
          intro j u hu
          have hj : j < ys.length := by
            have := (List.getElem?_eq_some_iff.1 hu).1
            simpa using this
          rw [hadd, hcell j hj]
          simpa [hj] using hu)
        (by intro u hu; obtain ⟨q, _, rfl⟩ := List.mem_map.1 hu; exact henc q) hl hl2 hbase
      exact ⟨v1, w1, hr, by simpa using h2, h3, h5.imp id (fun h => ⟨_, h, Nat.le_refl _⟩)⟩
  obtain ⟨v1, w1, hr, hown, hg, hat⟩ := hrun
  unfold Oper.wp execOp
  simp only [ho, resolve, invoke, builtin, Sem.run_bind, Sem.run_pure, Result.andThen_ok, List.map_toArray, List.map_cons, List.map_nil, hs, hx, hr]
  exact h v1 w1 hown hg hat


theorem app_row {W : World} {α : Type} {enc : α → Value} (henc : ∀ x, (enc x).oneCell' = true) (base : Nat) (hgd : o.guard = none) (s x : Operand) (t e : TypeId) (z : Value) (bytes : Nat)
    (ho : o.op = .call { callee := .builtin .append, args := #[s, x], argTypes := #[t, t] })
    (ht : P.underlying t = some (.slice e)) (hinfo : (P.info? e).map (fun i => (i.zero, i.size, i.bytes)) = some (some z, 1, bytes)) (hz : z.cells.size = 1)
    (v : Value) (xs ys : List α) (u : Value) (ok : Nat → Prop) (hs : a.eval s = v) (hx : a.eval x = u)
    (HO : W.ownsRow base e 1 v xs.length (xs.map enc)) (HR : Sl (elOne enc) W ok u ys) (hbase : base ≤ W.heap.size) (hl : xs.length + ys.length ≤ maxLen) (hl2 : (xs.length + ys.length) * bytes ≤ 140737488355328)
    (h : ∀ v1 w1, w1.ownsRow base e 1 v1 (xs ++ ys).length ((xs ++ ys).map enc) → W.grownBy w1 v.ownBlock → Lies W.heap.size v v1 → wpList P ops Q rest (a.put o.dst v1) w1) :
    wpList P ops Q (o :: rest) a W :=
  wpList_plain hgd fun K hK => wp_app_row henc base hgd s x t e z bytes ho ht hinfo hz v xs ys u ok hs hx HO HR hbase hl hl2 fun v1 w1 h1 h2 h3 => hK _ _ (h v1 w1 h1 h2 h3)
theorem step_app_row {W : World} {K : Act → World → Prop} {E : Prop} {α : Type} {enc : α → Value} (henc : ∀ x, (enc x).oneCell' = true) (base : Nat) (hgd : o.guard = none) (s x : Operand) (t e : TypeId) (z : Value) (bytes : Nat)
    (ho : o.op = .call { callee := .builtin .append, args := #[s, x], argTypes := #[t, t] })
    (ht : P.underlying t = some (.slice e)) (hinfo : (P.info? e).map (fun i => (i.zero, i.size, i.bytes)) = some (some z, 1, bytes)) (hz : z.cells.size = 1)
    (v : Value) (xs ys : List α) (u : Value) (ok : Nat → Prop) (hs : a.eval s = v) (hx : a.eval x = u)
    (HO : W.ownsRow base e 1 v xs.length (xs.map enc)) (HR : Sl (elOne enc) W ok u ys) (hbase : base ≤ W.heap.size) (hl : xs.length + ys.length ≤ maxLen) (hl2 : (xs.length + ys.length) * bytes ≤ 140737488355328)
    (h : ∀ v1 w1, w1.ownsRow base e 1 v1 (xs ++ ys).length ((xs ++ ys).map enc) → W.grownBy w1 v.ownBlock → Lies W.heap.size v v1 → K (a.put o.dst v1) w1) :
    if Region.wanted o (yielded ops a.tmps) = true then o.wp P a W K Q else E := by
  rw [if_pos (by simp [Region.wanted, hgd])]
  exact wp_app_row henc base hgd s x t e z bytes ho ht hinfo hz v xs ys u ok hs hx HO HR hbase hl hl2 h
end

/-- What is owned reads. -/
theorem own_sl {α : Type} {enc : α → Value} {w : World} {base n : Nat} {e : TypeId} {v : Value} {xs : List α} (h : w.ownsRow base e 1 v n (xs.map enc)) : Sl (elOne enc) w (fun b => base ≤ b) v xs ∧ n = xs.length := by
  have hl : xs.length = n := by have := h.1; simpa using this
  refine ⟨?_, hl.symm⟩
  rcases h.2 with ⟨rfl, hn⟩ | ⟨g, cap, cur, rfl, hb, hh, h1, h2, h3, h4⟩
  · obtain rfl : xs = [] := List.eq_nil_of_length_eq_zero (by omega)
    exact Sl.nil (by omega)
  · refine Sl.mk1 hl h1 (by simpa [maxLen] using h2) fun hp => ⟨g, 0, rfl, hb, fun j hj => ?_⟩
    have := h.cells (g := g) rfl j (enc xs[j]) (by simp [hj])
    have hadd : (⟨g, 0, none⟩ : Addr).add j = ⟨g, 0 + j, none⟩ := by unfold Addr.add; split <;> simp_all
    rwa [hadd] at this
theorem own_slW {α : Type} {enc : α → Value} {w : World} {base n : Nat} {e : TypeId} {v : Value} {xs : List α} {ok : Nat → Prop} (h : w.ownsRow base e 1 v n (xs.map enc)) (hok : ∀ b, base ≤ b → ok b) : Sl (elOne enc) w ok v xs :=
  (own_sl h).1.weak (fun b hb _ => hok b hb) Nat.one_pos
/-- A literal. -/
theorem lit_sl {α : Type} {enc : α → Value} (w : World) (xs : List α) (e : TypeId) (hl : xs.length ≤ 9223372036854775807) {ok : Nat → Prop} (hok : ok w.heap.size) :
    Sl (elOne enc) (w.alloc (.cells (xs.map enc).toArray e)) ok (.slice (some ⟨w.heap.size, 0, none⟩) xs.length xs.length) xs := by
  refine Sl.mk1 rfl (Nat.le_refl _) hl fun hp => ⟨w.heap.size, 0, rfl, hok, fun j hj => ?_⟩
  rw [Nat.zero_add, (Blk.new w (xs.map enc) e).cell j]
  simp [hj]

end Go.Proofs.YtocmnhjgknaocaaDoor
