import Derived.Test.YtocmnhjgknaocaaDoorDisk3
set_option linter.unusedVariables false
set_option linter.unusedSimpArgs false
set_option maxRecDepth 100000
namespace Go.Proofs.YtocmnhjgknaocaaDoor
open Go.RowKit Tb

set_option maxHeartbeats 1600000 in
theorem clone_any (b : Nat) (es : Array MapEntry) (clock : Nat) (w : World) (hb : w.heap[b]? = some (.map es clock)) :
    Calls Tryd.prog 94 #[.map (some b)] w (Ret (.map (some w.heap.size)) (w.alloc (.map es clock))) := by
  have hq := fun w => run_eql_map_nil_sl (P := Tryd.prog) w 108 _ _ (some b) Tryd.underlying108
  have hcl := run_maps_clone_sl (P := Tryd.prog) w 108 hb
  go_enter Tryd.func94, Tryd.ntmps94
  go_wp2
  rw [run_callFunc_extern Tryd.func124 (by kernel_rfl) (by kernel_rfl) (by kernel_rfl) (e := Extern.MapsClone.clone) (by kernel_rfl), hcl]
  simp only [Result.andThen]
  rw [Oper.upon_value]
  go_wp2
  rw [run_typeAssert_map_sl _ 108 20 _ _ _ Tryd.underlying108]
  simp only [Result.andThen]
  rw [Oper.upon_value]
  go_wp2
  go_ret
  exact ⟨rfl, rfl⟩

theorem own_own_ne {w : World} {b base base' n n' size size' : Nat} {t t' : TypeId} {v v' : Value} {xs xs' : List Value} (h : w.ownsRow base t size v n xs) (h' : w.ownsRow base' t' size' v' n' xs') (hne : t ≠ t') (hb : v.ownBlock = some b) : some b ≠ v'.ownBlock := by
  rcases h.2 with ⟨rfl, _⟩ | ⟨g, cap, cur, rfl, _, hh, _⟩
  · cases hb
  · injection hb with hb
    have hb : g = b := hb
    subst hb
    rcases h'.2 with ⟨rfl, _⟩ | ⟨g', cap', cur', rfl, _, hh', _⟩
    · intro e; cases e
    · intro e
      injection e with e
      have e : g = g' := e
      subst e
      rw [hh] at hh'
      injection hh' with hh'
      injection hh' with _ h2 _
      exact hne h2
theorem infoDir : (Tryd.prog.info? 108).map (fun i => (i.zero, i.size, i.bytes)) = some (some (.map none), 1, 8) := by kernel_rfl
/-- What change leaves. -/
def ChangePost (F : Nat → Prop) (w : World) (D : Nat) (s : PDisk) (mS : Nat) (mT : List Nat) (bv : Nat → Value) (e : Ending) (w' : World) : Prop :=
  ∃ vT', e = .returned (.map (some w.heap.size)) ∧ DiskAt (fun b => F b ∨ w.heap.size ≤ b) w' D { s with steps := s.steps ++ [s.now] } mS (mT ++ [w.heap.size]) vT' bv ∧ Kept F w w' ∧ w.heap.size < w'.heap.size

set_option maxHeartbeats 1600000 in
theorem change_any {F : Nat → Prop} {w : World} {D : Nat} {s : PDisk} {mS : Nat} {mT : List Nat} {vT : Value} {bv : Nat → Value} (h : DiskAt F w D s mS mT vT bv) (hlong : s.steps.length < 1000000000) :
    Calls Tryd.prog 76 #[ptrV D] w (ChangePost F w D s mS mT bv) := by
  have HN := Lib.hid (now_any h)
  obtain ⟨es, clk, hb, he⟩ := h.mapNow
  have HCL := Lib.hid (clone_any (nowB mS mT) es clk w hb)
  have hbel : Below w.heap.size w (w.alloc (.map es clk)) := below_alloc (Below.refl _ _) _
  have hM : MapIs (w.alloc (.map es clk)) w.heap.size s.now := ⟨es, clk, heap_alloc_new w _, he⟩
  have hB1 := h.blk.belowS hbel
  have c2 := hB1.at 2 _ rfl
  have f2 := hB1.frozen 2
  have HROW := own_below h.rowT hbel
  have HH := Lib.hid h
  have HM := Lib.hid hM
  have HB1 := Lib.hid hB1
  have HBEL := Lib.hid hbel
  have hml : mT.length < 1000000000 := by rw [h.lenT]; exact hlong
  have HS1 := size_al w (.map es clk)
  clear h hb he hM hB1 hbel
  unfold ptrV at HN ⊢
  go_enter Tryd.func76, Tryd.ntmps76
  go_wp2_with (first
    | (go_at_call 67; refine HN.out.mono ?_; rintro e w1 ⟨rfl, rfl⟩)
    | (go_at_call 94; refine HCL.out.mono ?_; rintro e w1 ⟨rfl, rfl⟩)
    | (at_builtin; refine app_cells 0 rfl (.tmp 11) (.tmp 13) 109 108 (.map none) 1 8 rfl Tryd.underlying109 infoDir rfl (by decide) vT mT.length (mT.map fun m => Value.map (some m)) [.map (some w.heap.size)] rfl (by show Value.slice _ _ _ = Value.slice _ _ _; simp) (by simp [Value.oneCell']) rfl HROW (Nat.zero_le _) (by unfold maxLen; omega) (by omega) ?_;
        intro v1 w2 hown2 hg2 hlie2 hsh2; obtain ⟨gv, kv, rfl⟩ := hsh2;
        have hDne : some D ≠ vT.ownBlock := fun e => own_ne HB1.out HROW (by decide) e.symm rfl;
        have hB2 : Blk w2 D _ _ := (hg2.block D HB1.out.lt hDne).trans HB1.out; have c22 := hB2.at 2 _ rfl; have f22 := hB2.frozen 2))
  go_ret
  have hH := HH.out
  have hDlt := hH.blk.lt
  have hvlt : ∀ b, vT.ownBlock = some b → b < w.heap.size := fun b hb => (hH.rowT.lt b hb).2
  have hsz := hg2.size
  have hkeep : ∀ b, b ≠ D → some b ≠ vT.ownBlock → b < w.heap.size → (w2.setCell ⟨D, 2, none⟩ (.slice (some ⟨gv, 0, none⟩) (mT.length + 1) kv)).heap[b]? = w.heap[b]? := fun b h1 h2 h3 =>
    (Below.heap_setCell w2 _ _ b h1).trans ((hg2.block b (by rw [HS1]; omega) h2).trans (Below.heap_alloc w _ b h3))
  have hmapne : ∀ {b : Nat} {l : Dir}, MapIs w b l → some b ≠ vT.ownBlock := fun {b l} hm e => by
    rcases hH.rowT.2 with ⟨e2, _⟩ | ⟨g, cap, cur, e2, _, hh, _⟩
    · rw [e2] at e; cases e
    · rw [e2] at e
      injection e with e
      have e : b = g := e
      subst e
      obtain ⟨es', clk', hb', _⟩ := hm
      rw [hb'] at hh
      cases hh
  have hvS : (w2.setCell ⟨D, 2, none⟩ (.slice (some ⟨gv, 0, none⟩) (mT.length + 1) kv)).heap.size = w2.heap.size := by simp [World.setCell]
  refine ⟨.slice (some ⟨gv, 0, none⟩) (mT.length + 1) kv, rfl, ?_, ?_, ?_⟩
  · exact {
      fD := .inl hH.fD
      blk := hB2.set 2 _
      fS := .inl hH.fS
      mapS := hH.mapS.keep (hkeep _ (hH.mapS.cells hH.blk) (hmapne hH.mapS) hH.mapS.lt)
      lenT := by simp [hH.lenT]
      fT := fun m hm => by
        rcases List.mem_append.1 hm with hm | hm
        · exact .inl (hH.fT m hm)
        · rw [List.mem_singleton] at hm; exact .inr (by omega)
      mapT := fun j h1 h2 => by
        have hlen := hH.lenT
        by_cases hj : j < mT.length
        · have hm := hH.mapT j hj (by omega)
          simp only [List.getElem_append_left hj, List.getElem_append_left (show j < s.steps.length by omega)]
          exact hm.keep (hkeep _ (hm.cells hH.blk) (hmapne hm) hm.lt)
        · have hj2 : j = mT.length := by simp at h1; omega
          subst hj2
          have e1 : (mT ++ [w.heap.size])[mT.length] = w.heap.size := by simp
          have e2 : (s.steps ++ [s.now])[mT.length] = s.now := by simp [hlen]
          simp only [e1, e2]
          refine HM.out.keep ?_
          refine (Below.heap_setCell w2 _ _ _ (by show w.heap.size ≠ D; omega)).trans (hg2.block _ (by rw [HS1]; omega) fun e => ?_)
          have := hvlt _ e.symm
          omega
      rowT := by
        refine own_at (by rw [List.length_append, List.map_append]; exact hown2) fun b hb => Below.heap_setCell w2 _ _ b ?_
        exact own_ne hB2 hown2 (by decide) hb
      fR := fun b hb => by
        rcases hlie2 with e | ⟨c, e, hc⟩
        · exact .inl (hH.fR b (e ▸ hb))
        · rw [e] at hb; injection hb with hb; rw [HS1] at hc; exact .inr (by omega)
      nodup := hH.nodup
      fI := fun i hi => .inl (hH.fI i hi)
      fileI := fun i hi => by
        have hb := hH.fileI i hi
        exact (hkeep i (blk_ne hb hH.blk (by decide)) (fun e => own_ne hb hH.rowT (by decide) e.symm rfl) hb.lt).trans hb
      rowI := fun i hi => by
        have hr := hH.rowI i hi
        exact own_at hr fun b hb => hkeep b (own_ne hH.blk hr (by decide) hb) (own_own_ne hr hH.rowT (by decide) hb) (World.ownsRow.lt hr b hb).2
      fB := fun i hi b hb => .inl (hH.fB i hi b hb)
      apart := hH.apart
      inS := hH.inS
      inT := fun d hd p hp => by
        rcases List.mem_append.1 hd with hd | hd
        · exact hH.inT d hd p hp
        · rw [List.mem_singleton] at hd; subst hd; exact hH.inNow p hp
      fuse := hH.fuse
      room := hH.room
      long := by simp; omega
      many := hH.many
      bytes := hH.bytes }
  · exact ⟨hg2.os, hg2.tape, hg2.output, by rw [hvS]; omega, fun k hk hf => hkeep k (fun e => hf (e ▸ hH.fD)) (fun e => hf (hH.fR k e.symm)) hk⟩
  · rw [hvS]; omega

end Go.Proofs.YtocmnhjgknaocaaDoor
