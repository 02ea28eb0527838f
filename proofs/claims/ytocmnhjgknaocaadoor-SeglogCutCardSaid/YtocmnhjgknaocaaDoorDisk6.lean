import Derived.Test.YtocmnhjgknaocaaDoorDisk5
set_option linter.unusedVariables false
set_option linter.unusedSimpArgs false
set_option maxRecDepth 100000
namespace Go.Proofs.YtocmnhjgknaocaaDoor
open Go.RowKit Tb
open Go.ChangeMaps (setBlock)

section
variable {F : Nat → Prop} {w : World} {D : Nat} {s : PDisk} {mS : Nat} {mT : List Nat} {vT : Value} {bv : Nat → Value}
/-- What the disk's blocks hold is as it was. -/
theorem DiskAt.keepF {G : Nat → Prop} {w' : World} (h : DiskAt F w D s mS mT vT bv) (hk : ∀ b, F b → b < w.heap.size → w'.heap[b]? = w.heap[b]?) (hFG : ∀ b, F b → G b) : DiskAt G w' D s mS mT vT bv where
  fD := hFG _ h.fD
  blk := (hk D h.fD h.blk.lt).trans h.blk
  fS := hFG _ h.fS
  mapS := h.mapS.keep (hk _ h.fS h.mapS.lt)
  lenT := h.lenT
  fT := fun m hm => hFG _ (h.fT m hm)
  mapT := fun j h1 h2 => by
    have hm := h.mapT j h1 h2
    exact hm.keep (hk _ (h.fT _ (List.getElem_mem _)) hm.lt)
  rowT := own_at h.rowT fun b hb => hk b (h.fR b hb) (h.rowT.lt b hb).2
  fR := fun b hb => hFG _ (h.fR b hb)
  nodup := h.nodup
  fI := fun i hi => hFG _ (h.fI i hi)
  fileI := fun i hi => (hk i (h.fI i hi) (h.fileI i hi).lt).trans (h.fileI i hi)
  rowI := fun i hi => own_at (h.rowI i hi) fun b hb => hk b (h.fB i hi b hb) (World.ownsRow.lt (h.rowI i hi) b hb).2
  fB := fun i hi b hb => hFG _ (h.fB i hi b hb)
  apart := h.apart
  inS := h.inS
  inT := h.inT
  fuse := h.fuse
  room := h.room
  long := h.long
  many := h.many
  bytes := h.bytes
theorem DiskAt.below {w' : World} (h : DiskAt F w D s mS mT vT bv) (hb : Below w.heap.size w w') : DiskAt F w' D s mS mT vT bv := h.keepF (fun b _ hlt => hb.block b hlt) fun _ h => h

def PDisk.add (s : PDisk) (f : Nat) : PDisk := { s with ids := s.ids ++ [f], file := fun i => if i = f then ⟨[], 0⟩ else s.file i }
theorem DiskAt.add (h : DiskAt F w D s mS mT vT bv) {f : Nat} (hf : f ∉ s.ids) (hmany : s.ids.length < 1000000000) (hF : F f) (hB : Blk w f [.slice none 0 0, .int .i64 0] 129) :
    DiskAt F w D (s.add f) mS mT vT (fun i => if i = f then .slice none 0 0 else bv i) := by
  have hne : ∀ i ∈ s.ids, i ≠ f := fun i hi e => hf (e ▸ hi)
  have key : ∀ i ∈ (s.add f).ids, (i ∈ s.ids ∧ i ≠ f) ∨ i = f := fun i hi => by
    rcases List.mem_append.1 hi with hi | hi
    · exact .inl ⟨hi, hne i hi⟩
    · rw [List.mem_singleton] at hi; exact .inr hi
  exact {
    fD := h.fD
    blk := h.blk
    fS := h.fS
    mapS := h.mapS
    lenT := h.lenT
    fT := h.fT
    mapT := h.mapT
    rowT := h.rowT
    fR := h.fR
    nodup := by
      show (s.ids ++ [f]).Nodup
      rw [List.nodup_append]
      refine ⟨h.nodup, by simp, fun a ha b hb => ?_⟩
      rw [List.mem_singleton] at hb
      subst hb
      exact hne a ha
    fI := fun i hi => by
      rcases key i hi with ⟨h1, _⟩ | rfl
      · exact h.fI i h1
      · exact hF
    fileI := fun i hi => by
      show Blk w i [if i = f then _ else _, .int .i64 (if i = f then (⟨[], 0⟩ : PFile) else s.file i).sure] _
      rcases key i hi with ⟨h1, h2⟩ | rfl
      · rw [if_neg h2, if_neg h2]; exact h.fileI i h1
      · rw [if_pos rfl, if_pos rfl]; exact hB
    rowI := fun i hi => by
      show OwnB w 0 (if i = f then _ else _) (if i = f then (⟨[], 0⟩ : PFile) else s.file i).b
      rcases key i hi with ⟨h1, h2⟩ | rfl
      · rw [if_neg h2, if_neg h2]; exact h.rowI i h1
      · rw [if_pos rfl, if_pos rfl]; exact World.ownsRow_nil _ _ _ _
    fB := fun i hi b hb => by
      rcases key i hi with ⟨h1, h2⟩ | rfl
      · rw [if_neg h2] at hb; exact h.fB i h1 b hb
      · rw [if_pos rfl] at hb; cases hb
    apart := fun i hi j hj hij => by
      rcases key i hi with ⟨h1, h2⟩ | rfl
      · simp only [if_neg h2]
        rcases key j hj with ⟨h3, h4⟩ | rfl
        · simp only [if_neg h4]; exact h.apart i h1 j h3 hij
        · simp only [if_pos rfl]; exact (apart_nil _).symm
      · simp only [if_pos rfl]; exact apart_nil _
    inS := fun p hp => List.mem_append_left _ (h.inS p hp)
    inT := fun d hd p hp => List.mem_append_left _ (h.inT d hd p hp)
    fuse := h.fuse
    room := h.room
    long := h.long
    many := by show (s.ids ++ [f]).length ≤ _; simp; omega
    bytes := fun i hi => by
      show ((if i = f then (⟨[], 0⟩ : PFile) else s.file i).b.length ≤ 1048576 ∧ (if i = f then (⟨[], 0⟩ : PFile) else s.file i).sure ≤ (if i = f then (⟨[], 0⟩ : PFile) else s.file i).b.length)
      rcases key i hi with ⟨h1, h2⟩ | rfl
      · rw [if_neg h2]; exact h.bytes i h1
      · rw [if_pos rfl]; exact ⟨by simp, by simp⟩ }

/-- The last directory's map has turned. -/
theorem DiskAt.turn {w' : World} {ts : List Dir} {d d' : Dir} {m : Nat} (h : DiskAt F w D { s with steps := ts ++ [d] } mS (mT ++ [m]) vT bv) (hS : m ≠ mS) (hT : m ∉ mT)
    (hk : ∀ b, b ≠ m → b < w.heap.size → w'.heap[b]? = w.heap[b]?) (hM : MapIs w' m d') (hin : ∀ p ∈ d', p.2 ∈ s.ids) : DiskAt F w' D { s with steps := ts ++ [d'] } mS (mT ++ [m]) vT bv := by
  have hlen : mT.length = ts.length := by have := h.lenT; simpa using this
  have hmap : MapIs w m d := by
    have := h.mapT mT.length (by simp) (by simp [hlen])
    simpa [hlen] using this
  have hne : ∀ {b : Nat} {cs : List Value} {t : TypeId}, Blk w b cs t → b ≠ m := fun hb e => hmap.cells hb e.symm
  have hrow : ∀ {base n size : Nat} {t : TypeId} {v : Value} {xs : List Value}, w.ownsRow base t size v n xs → ∀ b, v.ownBlock = some b → b ≠ m := fun {base n size t v xs} ho b hb e => by
    rcases ho.2 with ⟨rfl, _⟩ | ⟨g, cap, cur, rfl, _, hh, _⟩
    · cases hb
    · injection hb with hb
      have hb : g = b := hb
      subst hb
      subst e
      obtain ⟨es', clk', hb', _⟩ := hmap
      rw [hb'] at hh
      cases hh
  exact {
    fD := h.fD
    blk := (hk D (hne h.blk) h.blk.lt).trans h.blk
    fS := h.fS
    mapS := h.mapS.keep (hk _ (fun e => hS e.symm) h.mapS.lt)
    lenT := by simp [hlen]
    fT := h.fT
    mapT := fun j h1 h2 => by
      by_cases hj : j < mT.length
      · have hm := h.mapT j h1 (by simp; omega)
        simp only [List.getElem_append_left hj, List.getElem_append_left (show j < ts.length by omega)] at hm ⊢
        exact hm.keep (hk _ (fun e => hT (e ▸ List.getElem_mem _)) hm.lt)
      · have hj2 : j = mT.length := by simp at h1; omega
        subst hj2
        have e1 : (mT ++ [m])[mT.length] = m := by simp
        have e2 : (ts ++ [d'])[mT.length] = d' := by simp [hlen]
        simp only [e1, e2]
        exact hM
    rowT := own_at h.rowT fun b hb => hk b (hrow h.rowT b hb) (h.rowT.lt b hb).2
    fR := h.fR
    nodup := h.nodup
    fI := h.fI
    fileI := fun i hi => (hk i (hne (h.fileI i hi)) (h.fileI i hi).lt).trans (h.fileI i hi)
    rowI := fun i hi => own_at (h.rowI i hi) fun b hb => hk b (hrow (h.rowI i hi) b hb) (World.ownsRow.lt (h.rowI i hi) b hb).2
    fB := h.fB
    apart := h.apart
    inS := h.inS
    inT := fun e he p hp => by
      rcases List.mem_append.1 he with he | he
      · exact h.inT e (List.mem_append_left _ he) p hp
      · rw [List.mem_singleton] at he; subst he; exact hin p hp
    fuse := h.fuse
    room := h.room
    long := by have := h.long; simpa using this
    many := h.many
    bytes := h.bytes }
end

end Go.Proofs.YtocmnhjgknaocaaDoor
