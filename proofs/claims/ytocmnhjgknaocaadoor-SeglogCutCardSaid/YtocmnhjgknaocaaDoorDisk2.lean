import Derived.Test.YtocmnhjgknaocaaDoorDisk1
set_option linter.unusedVariables false
set_option linter.unusedSimpArgs false
set_option maxRecDepth 100000
namespace Go.Proofs.YtocmnhjgknaocaaDoor
open Go.RowKit Tb

theorem DiskAt.mapNow {F : Nat → Prop} {w : World} {D : Nat} {s : PDisk} {mS : Nat} {mT : List Nat} {vT : Value} {bv : Nat → Value} (h : DiskAt F w D s mS mT vT bv) : MapIs w (nowB mS mT) s.now := by
  unfold nowB PDisk.now
  rcases Nat.eq_zero_or_pos mT.length with h0 | h0
  · have e1 : mT = [] := List.eq_nil_of_length_eq_zero h0
    have e2 : s.steps = [] := List.eq_nil_of_length_eq_zero (by rw [← h.lenT]; exact h0)
    rw [e1, e2]
    exact h.mapS
  · have hl := h.lenT
    rw [List.getLast?_eq_getElem?, List.getLast?_eq_getElem?, List.getElem?_eq_getElem (show mT.length - 1 < mT.length by omega), List.getElem?_eq_getElem (show s.steps.length - 1 < s.steps.length by omega)]
    simp only
    have := h.mapT (mT.length - 1) (by omega) (by omega)
    simp only [hl] at this ⊢
    exact this
theorem DiskAt.fNow {F : Nat → Prop} {w : World} {D : Nat} {s : PDisk} {mS : Nat} {mT : List Nat} {vT : Value} {bv : Nat → Value} (h : DiskAt F w D s mS mT vT bv) : F (nowB mS mT) := by
  unfold nowB
  rcases hx : mT.getLast? with _ | m
  · exact h.fS
  · exact h.fT m (List.mem_of_getLast? hx)
theorem DiskAt.inNow {F : Nat → Prop} {w : World} {D : Nat} {s : PDisk} {mS : Nat} {mT : List Nat} {vT : Value} {bv : Nat → Value} (h : DiskAt F w D s mS mT vT bv) : ∀ p ∈ s.now, p.2 ∈ s.ids := by
  unfold PDisk.now
  rcases hx : s.steps.getLast? with _ | d
  · exact h.inS
  · exact h.inT d (List.mem_of_getLast? hx)
theorem dirGet_mem : ∀ {l : Dir} {n : List UInt8} {f : Nat}, dirGet l n = some f → (n, f) ∈ l
  | p :: l, n, f, h => by
    unfold dirGet at h
    split at h
    · rename_i hn
      injection h with h
      subst h; subst hn
      exact List.mem_cons_self
    · exact List.mem_cons_of_mem _ (dirGet_mem h)

def PDisk.there (s : PDisk) (n : List UInt8) : Int := match dirGet s.now n with | some _ => 0 | none => 5

set_option maxHeartbeats 800000 in
theorem there_any {F : Nat → Prop} {w : World} {D : Nat} {s : PDisk} {mS : Nat} {mT : List Nat} {vT : Value} {bv : Nat → Value} (h : DiskAt F w D s mS mT vT bv) (n : List UInt8) :
    Calls Tryd.prog 65 #[ptrV D, strV n] w (Ret (.int .i64 (s.there n)) w) := by
  have hlk := run_lookup_dir h.mapNow n
  have HN := Lib.hid (now_any h)
  clear h
  unfold PDisk.there
  unfold ptrV at HN hlk
  show Calls Tryd.prog 65 #[.pointer (some ⟨D, 0, none⟩), .string ⟨n.toArray⟩] w (Ret _ w)
  unfold strV at hlk
  rcases hg : dirGet s.now n with _ | f
  · rw [hg] at hlk
    simp only at hlk
    go_enter Tryd.func65, Tryd.ntmps65
    go_wp2_with (go_at_call 67; refine HN.out.mono ?_; rintro e w1 ⟨rfl, rfl⟩)
    go_ret
    exact ⟨rfl, rfl⟩
  · rw [hg] at hlk
    simp only at hlk
    go_enter Tryd.func65, Tryd.ntmps65
    go_wp2_with (go_at_call 67; refine HN.out.mono ?_; rintro e w1 ⟨rfl, rfl⟩)
    go_ret
    exact ⟨rfl, rfl⟩

end Go.Proofs.YtocmnhjgknaocaaDoor
