import Derived.Test.YtocmnhjgknaocaaDoorDisk9
set_option linter.unusedVariables false
set_option linter.unusedSimpArgs false
set_option maxRecDepth 100000
namespace Go.Proofs.YtocmnhjgknaocaaDoor
open Go.RowKit Tb
open Go.ChangeMaps (setBlock)

def PDisk.setFile (s : PDisk) (i : Nat) (f : PFile) : PDisk := { s with file := fun j => if j = i then f else s.file j }
theorem map_own_ne {w : World} {b base n size : Nat} {l : Dir} {t : TypeId} {v : Value} {xs : List Value} (hm : MapIs w b l) (h' : w.ownsRow base t size v n xs) : some b ≠ v.ownBlock := by
  intro e
  obtain ⟨es, clk, hb, _⟩ := hm
  rcases h'.2 with ⟨rfl, _⟩ | ⟨g, cap, cur, rfl, _, hh, _⟩
  · cases e
  · injection e with e
    have e : b = g := e
    subst e
    rw [hb] at hh
    cases hh
section
variable {F : Nat → Prop} {w : World} {D : Nat} {s : PDisk} {mS : Nat} {mT : List Nat} {vT : Value} {bv : Nat → Value}
/-- One file has turned. -/
theorem DiskAt.setFile {w' : World} {i : Nat} (h : DiskAt F w D s mS mT vT bv) (hi : i ∈ s.ids) {v' : Value} {f : PFile}
    (hk : ∀ b, b ≠ i → some b ≠ (bv i).ownBlock → b < w.heap.size → w'.heap[b]? = w.heap[b]?) (hB : Blk w' i [v', .int .i64 f.sure] 129) (hO : OwnB w' 0 v' f.b)
    (hv : ∀ c, v'.ownBlock = some c → (bv i).ownBlock = some c ∨ w.heap.size ≤ c) (hlen : f.b.length ≤ 1048576 ∧ f.sure ≤ f.b.length) :
    DiskAt (fun b => F b ∨ w.heap.size ≤ b) w' D (s.setFile i f) mS mT vT (fun j => if j = i then v' else bv j) := by
  have hBi := h.fileI i hi
  have hRi := h.rowI i hi
  have hmap : ∀ {m : Nat} {l : Dir}, MapIs w m l → w'.heap[m]? = w.heap[m]? := fun hm => hk _ (hm.cells hBi) (map_own_ne hm hRi) hm.lt
  have hcase : ∀ {j : Nat}, j ∈ s.ids → j = i ∨ (j ≠ i ∧ j ∈ s.ids) := fun {j} hj => by
    by_cases e : j = i
    · exact .inl e
    · exact .inr ⟨e, hj⟩
  exact {
    fD := .inl h.fD
    blk := (hk D (blk_ne h.blk hBi (by decide)) (fun e => own_ne h.blk hRi (by decide) e.symm rfl) h.blk.lt).trans h.blk
    fS := .inl h.fS
    mapS := h.mapS.keep (hmap h.mapS)
    lenT := h.lenT
    fT := fun m hm => .inl (h.fT m hm)
    mapT := fun j h1 h2 => (h.mapT j h1 h2).keep (hmap (h.mapT j h1 h2))
    rowT := own_at h.rowT fun b hb => hk b (own_ne hBi h.rowT (by decide) hb) (own_own_ne h.rowT hRi (by decide) hb) (h.rowT.lt b hb).2
    fR := fun b hb => .inl (h.fR b hb)
    nodup := h.nodup
    fI := fun j hj => .inl (h.fI j hj)
    fileI := fun j hj => by
      show Blk w' j [if j = i then _ else _, .int .i64 (if j = i then f else s.file j).sure] _
      rcases hcase hj with rfl | ⟨h1, h2⟩
      · rw [if_pos rfl, if_pos rfl]; exact hB
      · rw [if_neg h1, if_neg h1]
        exact (hk j h1 (fun e => own_ne (h.fileI j h2) hRi (by decide) e.symm rfl) (h.fileI j h2).lt).trans (h.fileI j h2)
    rowI := fun j hj => by
      show OwnB w' 0 (if j = i then _ else _) (if j = i then f else s.file j).b
      rcases hcase hj with rfl | ⟨h1, h2⟩
      · rw [if_pos rfl, if_pos rfl]; exact hO
      · rw [if_neg h1, if_neg h1]
        exact own_at (h.rowI j h2) fun b hb => hk b (own_ne hBi (h.rowI j h2) (by decide) hb) (fun e => h.apart j h2 i hi h1 b hb e.symm) (World.ownsRow.lt (h.rowI j h2) b hb).2
    fB := fun j hj b hb => by
      have hb : (if j = i then v' else bv j).ownBlock = some b := hb
      rcases hcase hj with rfl | ⟨h1, h2⟩
      · rw [if_pos rfl] at hb
        rcases hv b hb with e | e
        · exact .inl (h.fB j hj b e)
        · exact .inr e
      · rw [if_neg h1] at hb
        exact .inl (h.fB j h2 b hb)
    apart := fun j hj k hk2 hjk => by
      have key : ∀ j ∈ s.ids, j ≠ i → Apart (bv j) v' := fun j h2 h1 b hb hc => by
        rcases hv b hc with e | e
        · exact h.apart j h2 i hi h1 b hb e
        · have := (World.ownsRow.lt (h.rowI j h2) b hb).2
          omega
      show Apart (if j = i then _ else _) (if k = i then _ else _)
      rcases hcase hj with rfl | ⟨h1, h2⟩
      · rw [if_pos rfl, if_neg (fun e => hjk e.symm)]
        exact (key k hk2 (fun e => hjk e.symm)).symm
      · rw [if_neg h1]
        rcases hcase hk2 with rfl | ⟨h3, h4⟩
        · rw [if_pos rfl]; exact key j h2 h1
        · rw [if_neg h3]; exact h.apart j h2 k h4 hjk
    inS := h.inS
    inT := h.inT
    fuse := h.fuse
    room := h.room
    long := h.long
    many := h.many
    bytes := fun j hj => by
      show ((if j = i then f else s.file j).b.length ≤ 1048576 ∧ (if j = i then f else s.file j).sure ≤ (if j = i then f else s.file j).b.length)
      rcases hcase hj with rfl | ⟨h1, h2⟩
      · rw [if_pos rfl]; exact hlen
      · rw [if_neg h1]; exact h.bytes j h2 }
end

/-- What a call leaves that answers an error's number. -/
def OpPost (F : Nat → Prop) (w : World) (D : Nat) (q : Int × PDisk) (e : Ending) (w' : World) : Prop :=
  ∃ mS' mT' vT' bv', e = .returned (.int .i64 q.1) ∧ DiskAt (fun b => F b ∨ w.heap.size ≤ b) w' D q.2 mS' mT' vT' bv' ∧ Kept F w w'
theorem op_err {F : Nat → Prop} {w w1 w' : World} {D : Nat} {q : Int × PDisk} {mS : Nat} {mT : List Nat} {vT : Value} {bv : Nat → Value} {e : Ending} (hb1 : Below w.heap.size w w1) (hF : F D)
    (hc : CanPost F w1 D q mS mT vT bv e w') : OpPost F w D q e w' := by
  obtain ⟨he, hD, hk, hsz⟩ := hc
  exact ⟨mS, mT, vT, bv, he, hD.keepF (fun _ _ _ => rfl) fun b hb => .inl hb, (Kept.of_below hb1).trans hk fun i _ e => e ▸ hF⟩
theorem there_cases (s : PDisk) (n : List UInt8) : (dirGet s.now n = none ∧ s.there n = 5) ∨ ∃ i, dirGet s.now n = some i ∧ s.there n = 0 := by
  unfold PDisk.there
  rcases h : dirGet s.now n with _ | i
  · exact .inl ⟨rfl, rfl⟩
  · exact .inr ⟨i, rfl, rfl⟩
/-- A call that is done has turned the fuse alone. -/
theorem can_zero {s s1 : PDisk} (h : s.can 0 = (0, s1)) : s1 = { s with fuse := s1.fuse } := by
  unfold PDisk.can at h
  split at h
  · cases h
  · first | rw [if_neg (by simp)] at h | skip
    split at h
    · cases h
    · split at h
      · injection h with _ h; subst h; rfl
      · injection h with _ h; subst h; rfl
theorem can_fst (s : PDisk) (e : Int) (he : e ≠ 0) : (s.can e).1 ≠ 0 := can_ne he

/-! ### Append -/
def PDisk.appendErr (s : PDisk) (n b : List UInt8) : Int := match dirGet s.now n with | none => 5 | some _ => if s.room < (s.held : Int) + (b.length : Int) then 4 else 0
def PDisk.append (s : PDisk) (n b : List UInt8) : Int × PDisk :=
  if (s.can (s.appendErr n b)).1 = 0 then
    match dirGet s.now n with
    | some i => (0, (s.can (s.appendErr n b)).2.setFile i ⟨(s.file i).b ++ b, (s.file i).sure⟩)
    | none => s.can (s.appendErr n b)
  else s.can (s.appendErr n b)
theorem sum_mem : ∀ {l : List Nat} {x : Nat}, x ∈ l → x ≤ l.sum
  | y :: l, x, h => by
    rw [List.sum_cons]
    rcases List.mem_cons.1 h with rfl | h
    · omega
    · have := sum_mem h; omega
theorem len_le_held {s : PDisk} {i : Nat} (hi : i ∈ s.ids) (hr : s.reach i = true) : s.len i ≤ s.held :=
  sum_mem (List.mem_map.2 ⟨i, List.mem_filter.2 ⟨hi, hr⟩, rfl⟩)
theorem now_dirs (s : PDisk) : s.now ∈ s.dirs := by
  unfold PDisk.now PDisk.dirs
  rcases h : s.steps.getLast? with _ | d
  · exact List.mem_cons_self
  · exact List.mem_cons_of_mem _ (List.mem_of_getLast? h)
theorem reach_now {s : PDisk} {n : List UInt8} {i : Nat} (h : dirGet s.now n = some i) : s.reach i = true := reach_iff.2 ⟨_, now_dirs s, _, dirGet_mem h, rfl⟩
theorem held_le {s : PDisk} (hb : ∀ i ∈ s.ids, s.len i ≤ 1048576) (hm : s.ids.length ≤ 1000000000) : s.held ≤ 1048576000000000 := by
  unfold PDisk.held
  have h1 := sumLen_le (s := s) (l := s.ids.filter s.reach) fun i hi => hb i (List.mem_filter.1 hi).1
  have h2 := List.length_filter_le s.reach s.ids
  omega


end Go.Proofs.YtocmnhjgknaocaaDoor

set_option linter.unusedVariables false
set_option linter.unusedSimpArgs false
set_option maxRecDepth 100000
namespace Go.Proofs.YtocmnhjgknaocaaDoor
open Go.RowKit Tb
open Go.ChangeMaps (setBlock)

set_option maxHeartbeats 800000 in
theorem append_none {F : Nat → Prop} {w : World} {D : Nat} {s : PDisk} {mS : Nat} {mT : List Nat} {vT : Value} {bv : Nat → Value} (h : DiskAt F w D s mS mT vT bv) (n : List UInt8) (v : Value) (b : List UInt8) (ok : Nat → Prop) (hv : Sl elU8 w ok v b)
    (hok : ∀ x, ok x → ¬ F x) (hl : b.length ≤ 1000000000) (hg : dirGet s.now n = none) (ht : s.there n = 5) : Calls Tryd.prog 32 #[ptrV D, strV n, v] w (OpPost F w D (s.append n b)) := by
  have HTH := Lib.hid (there_any h n)
  have c0 := h.blk.at 0 _ rfl
  obtain ⟨A, c, hve, hc1, hc2, hc⟩ := hv.one
  have HV := Lib.hid hv
  have HH := Lib.hid h
  have HOK := Lib.hid hok
  have hheld : s.held ≤ 1048576000000000 := held_le (fun i hi => (h.bytes i hi).1) h.many
  subst hve
  clear h hv hok hc
  unfold ptrV strV at *
  rw [ht] at HTH
  have he : s.appendErr n b = 5 := by unfold PDisk.appendErr; rw [hg]
  have hne : (s.can 5).1 ≠ 0 := can_ne (by decide)
  have hbe : ((s.can 5).1 == 0) = false := by simpa using hne
  have hq : s.append n b = s.can 5 := by unfold PDisk.append; rw [he, if_neg hne]
  rw [hq]
  clear hne he hq hg ht
  go_enter Tryd.func32, Tryd.ntmps32
  go_wp2_with (go_at_call 65; refine HTH.out.mono ?_; rintro e w1 ⟨rfl, rfl⟩)
  refine reg_start (fun _ => True) (by kernel_rfl) ?_ (fun hHeld => ?_)
  · first | exact trivial | (dsimp only; go_keep)
  refine reg_take (v := ?v1) 0 rfl (by kernel_rfl) (by kernel_rfl) (by kernel_rfl) (by rfl) ?hy1 (by assumption) ?_
  case hy1 => (intro w hSw; (try dsimp only at hSw); go_simp; try with_reducible rfl)
  try simp only [Act.put, List.setIfInBounds_toArray, List.set_cons_zero, List.set_cons_succ]
  refine reg_take (v := ?v2) 1 rfl (by kernel_rfl) (by kernel_rfl) (by kernel_rfl) (by rfl) ?hy2 (by assumption) ?_
  case hy2 => (intro w hSw; (try dsimp only at hSw); go_simp; try with_reducible rfl)
  try simp only [Act.put, List.setIfInBounds_toArray, List.set_cons_zero, List.set_cons_succ]
  refine reg_take (v := ?v3) 2 rfl (by kernel_rfl) (by kernel_rfl) (by kernel_rfl) (by rfl) ?hy3 (by assumption) ?_
  case hy3 => (intro w hSw; (try dsimp only at hSw); go_simp; try with_reducible rfl)
  try simp only [Act.put, List.setIfInBounds_toArray, List.set_cons_zero, List.set_cons_succ]
  refine reg_skip 3 rfl (by kernel_rfl) (by kernel_rfl) (by kernel_rfl) (by rfl) (by assumption) ?_
  try simp only [Act.put, List.setIfInBounds_toArray, List.set_cons_zero, List.set_cons_succ]
  refine reg_skip 4 rfl (by kernel_rfl) (by kernel_rfl) (by kernel_rfl) (by rfl) (by assumption) ?_
  try simp only [Act.put, List.setIfInBounds_toArray, List.set_cons_zero, List.set_cons_succ]
  refine reg_skip 5 rfl (by kernel_rfl) (by kernel_rfl) (by kernel_rfl) (by rfl) (by assumption) ?_
  try simp only [Act.put, List.setIfInBounds_toArray, List.set_cons_zero, List.set_cons_succ]
  refine reg_skip 6 rfl (by kernel_rfl) (by kernel_rfl) (by kernel_rfl) (by rfl) (by assumption) ?_
  try simp only [Act.put, List.setIfInBounds_toArray, List.set_cons_zero, List.set_cons_succ]
  refine reg_skip 7 rfl (by kernel_rfl) (by kernel_rfl) (by kernel_rfl) (by rfl) (by assumption) ?_
  try simp only [Act.put, List.setIfInBounds_toArray, List.set_cons_zero, List.set_cons_succ]
  refine reg_skip 8 rfl (by kernel_rfl) (by kernel_rfl) (by kernel_rfl) (by rfl) (by assumption) ?_
  try simp only [Act.put, List.setIfInBounds_toArray, List.set_cons_zero, List.set_cons_succ]
  refine reg_skip 9 rfl (by kernel_rfl) (by kernel_rfl) (by kernel_rfl) (by rfl) (by assumption) ?_
  try simp only [Act.put, List.setIfInBounds_toArray, List.set_cons_zero, List.set_cons_succ]
  refine reg_skip 10 rfl (by kernel_rfl) (by kernel_rfl) (by kernel_rfl) (by rfl) (by assumption) ?_
  try simp only [Act.put, List.setIfInBounds_toArray, List.set_cons_zero, List.set_cons_succ]
  refine reg_skip 11 rfl (by kernel_rfl) (by kernel_rfl) (by kernel_rfl) (by rfl) (by assumption) ?_
  try simp only [Act.put, List.setIfInBounds_toArray, List.set_cons_zero, List.set_cons_succ]
  refine reg_skip 12 rfl (by kernel_rfl) (by kernel_rfl) (by kernel_rfl) (by rfl) (by assumption) ?_
  try simp only [Act.put, List.setIfInBounds_toArray, List.set_cons_zero, List.set_cons_succ]
  refine reg_take (v := ?v4) 13 rfl (by kernel_rfl) (by kernel_rfl) (by kernel_rfl) (by rfl) ?hy4 (by assumption) ?_
  case hy4 => (intro w hSw; (try dsimp only at hSw); go_simp; try with_reducible rfl)
  try simp only [Act.put, List.setIfInBounds_toArray, List.set_cons_zero, List.set_cons_succ]
  refine reg_done (by kernel_rfl) ?_
  go_wp2_with (go_at_call 68; refine (can_any (HH.out.below (below_drewN (Below.refl _ _) 1)) 5).mono ?_; rintro e w2 hc; have HC := Lib.hid hc; obtain ⟨rfl, _, _, _⟩ := hc)
  go_ret
  exact op_err (below_drewN (Below.refl _ _) 1) HH.out.fD HC.out
set_option maxHeartbeats 800000 in
theorem append_full {F : Nat → Prop} {w : World} {D : Nat} {s : PDisk} {mS : Nat} {mT : List Nat} {vT : Value} {bv : Nat → Value} (h : DiskAt F w D s mS mT vT bv) (n : List UInt8) (v : Value) (b : List UInt8) (ok : Nat → Prop) (hv : Sl elU8 w ok v b)
    (hok : ∀ x, ok x → ¬ F x) (hl : b.length ≤ 1000000000) {i : Nat} (hg : dirGet s.now n = some i) (ht : s.there n = 0) (hroom : s.room < (s.held : Int) + (b.length : Int)) : Calls Tryd.prog 32 #[ptrV D, strV n, v] w (OpPost F w D (s.append n b)) := by
  have HTH := Lib.hid (there_any h n)
  have c0 := h.blk.at 0 _ rfl
  obtain ⟨A, c, hve, hc1, hc2, hc⟩ := hv.one
  have HV := Lib.hid hv
  have HH := Lib.hid h
  have HOK := Lib.hid hok
  have hheld : s.held ≤ 1048576000000000 := held_le (fun i hi => (h.bytes i hi).1) h.many
  subst hve
  clear h hv hok hc
  unfold ptrV strV at *
  rw [ht] at HTH
  have hi : i ∈ s.ids := HH.out.inNow _ (dirGet_mem hg)
  have hd : decide (s.room < (s.held : Int) + (b.length : Int)) = true := decide_eq_true hroom
  have hwr : IntKind.i64.wrap ((s.held : Int) + (b.length : Int)) = (s.held : Int) + (b.length : Int) := by rw [IntKind.wrap_i64]; omega
  have he : s.appendErr n b = 4 := by unfold PDisk.appendErr; rw [hg]; simp only; rw [if_pos hroom]
  have hne : (s.can 4).1 ≠ 0 := can_ne (by decide)
  have hbe : ((s.can 4).1 == 0) = false := by simpa using hne
  have hq : s.append n b = s.can 4 := by unfold PDisk.append; rw [he, if_neg hne]
  rw [hq]
  clear hne he hq hg hi ht hroom
  go_enter Tryd.func32, Tryd.ntmps32
  go_wp2_with (go_at_call 65; refine HTH.out.mono ?_; rintro e w1 ⟨rfl, rfl⟩)
  refine reg_start (fun w' => w'.cell? ⟨D, 0, none⟩ = some (.int .i64 s.room)) (by kernel_rfl) ?_ (fun hHeld => ?_)
  · first | exact c0 | (dsimp only; go_keep)
  refine reg_take (v := ?v5) 0 rfl (by kernel_rfl) (by kernel_rfl) (by kernel_rfl) (by rfl) ?hy5 (by assumption) ?_
  case hy5 => (intro w hSw; (try dsimp only at hSw); go_simp; try with_reducible rfl)
  try simp only [Act.put, List.setIfInBounds_toArray, List.set_cons_zero, List.set_cons_succ]
  refine reg_take (v := ?v6) 1 rfl (by kernel_rfl) (by kernel_rfl) (by kernel_rfl) (by rfl) ?hy6 (by assumption) ?_
  case hy6 => (intro w hSw; (try dsimp only at hSw); go_simp; try with_reducible rfl)
  try simp only [Act.put, List.setIfInBounds_toArray, List.set_cons_zero, List.set_cons_succ]
  refine reg_take (v := ?v7) 2 rfl (by kernel_rfl) (by kernel_rfl) (by kernel_rfl) (by rfl) ?hy7 (by assumption) ?_
  case hy7 => (intro w hSw; (try dsimp only at hSw); go_simp; try with_reducible rfl)
  try simp only [Act.put, List.setIfInBounds_toArray, List.set_cons_zero, List.set_cons_succ]
  refine reg_take (v := ?v8) 3 rfl (by kernel_rfl) (by kernel_rfl) (by kernel_rfl) (by rfl) ?hy8 (by assumption) ?_
  case hy8 => (intro w hSw; (try dsimp only at hSw); go_simp; try with_reducible rfl)
  try simp only [Act.put, List.setIfInBounds_toArray, List.set_cons_zero, List.set_cons_succ]
  refine reg_take (v := ?v9) 5 rfl (by kernel_rfl) (by kernel_rfl) (by kernel_rfl) (by rfl) ?hy9 (by assumption) ?_
  case hy9 => (intro w hSw; (try dsimp only at hSw); go_simp; try with_reducible rfl)
  try simp only [Act.put, List.setIfInBounds_toArray, List.set_cons_zero, List.set_cons_succ]
  refine reg_take (v := ?v10) 6 rfl (by kernel_rfl) (by kernel_rfl) (by kernel_rfl) (by rfl) ?hy10 (by assumption) ?_
  case hy10 => (intro w hSw; (try dsimp only at hSw); go_simp; try with_reducible rfl)
  try simp only [Act.put, List.setIfInBounds_toArray, List.set_cons_zero, List.set_cons_succ]
  refine reg_take (v := ?v11) 8 rfl (by kernel_rfl) (by kernel_rfl) (by kernel_rfl) (by rfl) ?hy11 (by assumption) ?_
  case hy11 => (intro w hSw; (try dsimp only at hSw); go_simp; try with_reducible rfl)
  try simp only [Act.put, List.setIfInBounds_toArray, List.set_cons_zero, List.set_cons_succ]
  refine reg_take (v := ?v12) 9 rfl (by kernel_rfl) (by kernel_rfl) (by kernel_rfl) (by rfl) ?hy12 (by assumption) ?_
  case hy12 => (intro w hSw; (try dsimp only at hSw); go_simp; try with_reducible rfl)
  try simp only [Act.put, List.setIfInBounds_toArray, List.set_cons_zero, List.set_cons_succ]
  refine reg_take (v := ?v13) 10 rfl (by kernel_rfl) (by kernel_rfl) (by kernel_rfl) (by rfl) ?hy13 (by assumption) ?_
  case hy13 => (intro w hSw; (try dsimp only at hSw); go_simp; try with_reducible rfl)
  try simp only [Act.put, List.setIfInBounds_toArray, List.set_cons_zero, List.set_cons_succ]
  refine reg_take (v := ?v14) 11 rfl (by kernel_rfl) (by kernel_rfl) (by kernel_rfl) (by rfl) ?hy14 (by assumption) ?_
  case hy14 => (intro w hSw; (try dsimp only at hSw); go_simp; try with_reducible rfl)
  try simp only [Act.put, List.setIfInBounds_toArray, List.set_cons_zero, List.set_cons_succ]
  refine reg_one 4 rfl (by kernel_rfl) (fun K hK => ?_)
  go_simp
  refine (held_any (HH.out.below (below_drewN (Below.refl _ _) 1))).mono ?_
  rintro e w1 ⟨v1, rfl, hb1, rfl⟩
  replace hb1 := below_of_drew hb1
  refine hK.out _ _ ?_ (fun hHeld => ?_)
  · first | exact (cell_below hb1 c0) | (dsimp only; go_keep)
  clear hK K
  try simp only [Act.put, List.setIfInBounds_toArray, List.set_cons_zero, List.set_cons_succ]
  refine reg_take (v := ?v15) 7 rfl (by kernel_rfl) (by kernel_rfl) (by kernel_rfl) (by rfl) ?hy15 (by assumption) ?_
  case hy15 => (intro w hSw; (try dsimp only at hSw); go_simp; try with_reducible rfl)
  try simp only [Act.put, List.setIfInBounds_toArray, List.set_cons_zero, List.set_cons_succ]
  refine reg_take (v := ?v16) 12 rfl (by kernel_rfl) (by kernel_rfl) (by kernel_rfl) (by rfl) ?hy16 (by assumption) ?_
  case hy16 => (intro w hSw; (try dsimp only at hSw); go_simp; try with_reducible rfl)
  try simp only [Act.put, List.setIfInBounds_toArray, List.set_cons_zero, List.set_cons_succ]
  refine reg_take (v := ?v17) 13 rfl (by kernel_rfl) (by kernel_rfl) (by kernel_rfl) (by rfl) ?hy17 (by assumption) ?_
  case hy17 => (intro w hSw; (try dsimp only at hSw); go_simp; try with_reducible rfl)
  try simp only [Act.put, List.setIfInBounds_toArray, List.set_cons_zero, List.set_cons_succ]
  refine reg_done (by kernel_rfl) ?_
  have HB1 := Lib.hid hb1
  clear hb1
  go_wp2_with (go_at_call 68; refine (can_any (HH.out.below HB1.out) 4).mono ?_; rintro e w2 hc; have HC := Lib.hid hc; obtain ⟨rfl, _, _, _⟩ := hc)
  go_ret
  exact op_err HB1.out HH.out.fD HC.out
set_option maxHeartbeats 800000 in
theorem append_down {F : Nat → Prop} {w : World} {D : Nat} {s : PDisk} {mS : Nat} {mT : List Nat} {vT : Value} {bv : Nat → Value} (h : DiskAt F w D s mS mT vT bv) (n : List UInt8) (v : Value) (b : List UInt8) (ok : Nat → Prop) (hv : Sl elU8 w ok v b)
    (hok : ∀ x, ok x → ¬ F x) (hl : b.length ≤ 1000000000) {i : Nat} (hg : dirGet s.now n = some i) (ht : s.there n = 0) (hroom : ¬ s.room < (s.held : Int) + (b.length : Int)) {e1 : Int} {s1 : PDisk} (hq : s.can 0 = (e1, s1)) (he1 : ¬ e1 = 0) : Calls Tryd.prog 32 #[ptrV D, strV n, v] w (OpPost F w D (s.append n b)) := by
  have HTH := Lib.hid (there_any h n)
  have c0 := h.blk.at 0 _ rfl
  obtain ⟨A, c, hve, hc1, hc2, hc⟩ := hv.one
  have HV := Lib.hid hv
  have HH := Lib.hid h
  have HOK := Lib.hid hok
  have hheld : s.held ≤ 1048576000000000 := held_le (fun i hi => (h.bytes i hi).1) h.many
  subst hve
  clear h hv hok hc
  unfold ptrV strV at *
  rw [ht] at HTH
  have hi : i ∈ s.ids := HH.out.inNow _ (dirGet_mem hg)
  have hd : decide (s.room < (s.held : Int) + (b.length : Int)) = false := decide_eq_false hroom
  have hwr : IntKind.i64.wrap ((s.held : Int) + (b.length : Int)) = (s.held : Int) + (b.length : Int) := by rw [IntKind.wrap_i64]; omega
  have he : s.appendErr n b = 0 := by unfold PDisk.appendErr; rw [hg]; simp only; rw [if_neg hroom]
  have HROOM : Hid ((s.file i).b.length + b.length ≤ 1048576) := by
    have h1 := len_le_held hi (reach_now hg)
    have h2 := HH.out.room.2
    unfold Hid
    unfold PDisk.len at h1
    omega
  have hap : s.append n b = s.can 0 := by unfold PDisk.append; rw [he, hq, if_neg he1]
  have hbe : (e1 == 0) = false := by simpa using he1
  have HQ := Lib.hid hq
  rw [hap]
  clear hap he hq hg hi ht hroom he1
  go_enter Tryd.func32, Tryd.ntmps32
  go_wp2_with (go_at_call 65; refine HTH.out.mono ?_; rintro e w1 ⟨rfl, rfl⟩)
  refine reg_start (fun w' => w'.cell? ⟨D, 0, none⟩ = some (.int .i64 s.room)) (by kernel_rfl) ?_ (fun hHeld => ?_)
  · first | exact c0 | (dsimp only; go_keep)
  refine reg_take (v := ?v18) 0 rfl (by kernel_rfl) (by kernel_rfl) (by kernel_rfl) (by rfl) ?hy18 (by assumption) ?_
  case hy18 => (intro w hSw; (try dsimp only at hSw); go_simp; try with_reducible rfl)
  try simp only [Act.put, List.setIfInBounds_toArray, List.set_cons_zero, List.set_cons_succ]
  refine reg_take (v := ?v19) 1 rfl (by kernel_rfl) (by kernel_rfl) (by kernel_rfl) (by rfl) ?hy19 (by assumption) ?_
  case hy19 => (intro w hSw; (try dsimp only at hSw); go_simp; try with_reducible rfl)
  try simp only [Act.put, List.setIfInBounds_toArray, List.set_cons_zero, List.set_cons_succ]
  refine reg_take (v := ?v20) 2 rfl (by kernel_rfl) (by kernel_rfl) (by kernel_rfl) (by rfl) ?hy20 (by assumption) ?_
  case hy20 => (intro w hSw; (try dsimp only at hSw); go_simp; try with_reducible rfl)
  try simp only [Act.put, List.setIfInBounds_toArray, List.set_cons_zero, List.set_cons_succ]
  refine reg_take (v := ?v21) 3 rfl (by kernel_rfl) (by kernel_rfl) (by kernel_rfl) (by rfl) ?hy21 (by assumption) ?_
  case hy21 => (intro w hSw; (try dsimp only at hSw); go_simp; try with_reducible rfl)
  try simp only [Act.put, List.setIfInBounds_toArray, List.set_cons_zero, List.set_cons_succ]
  refine reg_take (v := ?v22) 5 rfl (by kernel_rfl) (by kernel_rfl) (by kernel_rfl) (by rfl) ?hy22 (by assumption) ?_
  case hy22 => (intro w hSw; (try dsimp only at hSw); go_simp; try with_reducible rfl)
  try simp only [Act.put, List.setIfInBounds_toArray, List.set_cons_zero, List.set_cons_succ]
  refine reg_take (v := ?v23) 6 rfl (by kernel_rfl) (by kernel_rfl) (by kernel_rfl) (by rfl) ?hy23 (by assumption) ?_
  case hy23 => (intro w hSw; (try dsimp only at hSw); go_simp; try with_reducible rfl)
  try simp only [Act.put, List.setIfInBounds_toArray, List.set_cons_zero, List.set_cons_succ]
  refine reg_take (v := ?v24) 8 rfl (by kernel_rfl) (by kernel_rfl) (by kernel_rfl) (by rfl) ?hy24 (by assumption) ?_
  case hy24 => (intro w hSw; (try dsimp only at hSw); go_simp; try with_reducible rfl)
  try simp only [Act.put, List.setIfInBounds_toArray, List.set_cons_zero, List.set_cons_succ]
  refine reg_take (v := ?v25) 9 rfl (by kernel_rfl) (by kernel_rfl) (by kernel_rfl) (by rfl) ?hy25 (by assumption) ?_
  case hy25 => (intro w hSw; (try dsimp only at hSw); go_simp; try with_reducible rfl)
  try simp only [Act.put, List.setIfInBounds_toArray, List.set_cons_zero, List.set_cons_succ]
  refine reg_take (v := ?v26) 10 rfl (by kernel_rfl) (by kernel_rfl) (by kernel_rfl) (by rfl) ?hy26 (by assumption) ?_
  case hy26 => (intro w hSw; (try dsimp only at hSw); go_simp; try with_reducible rfl)
  try simp only [Act.put, List.setIfInBounds_toArray, List.set_cons_zero, List.set_cons_succ]
  refine reg_take (v := ?v27) 11 rfl (by kernel_rfl) (by kernel_rfl) (by kernel_rfl) (by rfl) ?hy27 (by assumption) ?_
  case hy27 => (intro w hSw; (try dsimp only at hSw); go_simp; try with_reducible rfl)
  try simp only [Act.put, List.setIfInBounds_toArray, List.set_cons_zero, List.set_cons_succ]
  refine reg_one 4 rfl (by kernel_rfl) (fun K hK => ?_)
  go_simp
  refine (held_any (HH.out.below (below_drewN (Below.refl _ _) 1))).mono ?_
  rintro e w1 ⟨v1, rfl, hb1, rfl⟩
  replace hb1 := below_of_drew hb1
  refine hK.out _ _ ?_ (fun hHeld => ?_)
  · first | exact (cell_below hb1 c0) | (dsimp only; go_keep)
  clear hK K
  try simp only [Act.put, List.setIfInBounds_toArray, List.set_cons_zero, List.set_cons_succ]
  refine reg_take (v := ?v28) 7 rfl (by kernel_rfl) (by kernel_rfl) (by kernel_rfl) (by rfl) ?hy28 (by assumption) ?_
  case hy28 => (intro w hSw; (try dsimp only at hSw); go_simp; try with_reducible rfl)
  try simp only [Act.put, List.setIfInBounds_toArray, List.set_cons_zero, List.set_cons_succ]
  refine reg_take (v := ?v29) 12 rfl (by kernel_rfl) (by kernel_rfl) (by kernel_rfl) (by rfl) ?hy29 (by assumption) ?_
  case hy29 => (intro w hSw; (try dsimp only at hSw); go_simp; try with_reducible rfl)
  try simp only [Act.put, List.setIfInBounds_toArray, List.set_cons_zero, List.set_cons_succ]
  refine reg_take (v := ?v30) 13 rfl (by kernel_rfl) (by kernel_rfl) (by kernel_rfl) (by rfl) ?hy30 (by assumption) ?_
  case hy30 => (intro w hSw; (try dsimp only at hSw); go_simp; try with_reducible rfl)
  try simp only [Act.put, List.setIfInBounds_toArray, List.set_cons_zero, List.set_cons_succ]
  refine reg_done (by kernel_rfl) ?_
  have HB1 := Lib.hid hb1
  clear hb1
  go_wp2_with (go_at_call 68; refine (can_any (HH.out.below HB1.out) 0).mono ?_; rw [HQ.out]; rintro e w2 hc; have HC := Lib.hid hc; obtain ⟨rfl, _, _, _⟩ := hc)
  go_ret
  rw [HQ.out]
  exact op_err HB1.out HH.out.fD HC.out
set_option maxHeartbeats 1600000 in
theorem append_ok {F : Nat → Prop} {w : World} {D : Nat} {s : PDisk} {mS : Nat} {mT : List Nat} {vT : Value} {bv : Nat → Value} (h : DiskAt F w D s mS mT vT bv) (n : List UInt8) (v : Value) (b : List UInt8) (ok : Nat → Prop) (hv : Sl elU8 w ok v b)
    (hok : ∀ x, ok x → ¬ F x) (hl : b.length ≤ 1000000000) {i : Nat} (hg : dirGet s.now n = some i) (ht : s.there n = 0) (hroom : ¬ s.room < (s.held : Int) + (b.length : Int)) {e1 : Int} {s1 : PDisk} (hq : s.can 0 = (e1, s1)) (he1 : e1 = 0) : Calls Tryd.prog 32 #[ptrV D, strV n, v] w (OpPost F w D (s.append n b)) := by
  have HTH := Lib.hid (there_any h n)
  have c0 := h.blk.at 0 _ rfl
  obtain ⟨A, c, hve, hc1, hc2, hc⟩ := hv.one
  have HV := Lib.hid hv
  have HH := Lib.hid h
  have HOK := Lib.hid hok
  have hheld : s.held ≤ 1048576000000000 := held_le (fun i hi => (h.bytes i hi).1) h.many
  subst hve
  clear h hv hok hc
  unfold ptrV strV at *
  rw [ht] at HTH
  have hi : i ∈ s.ids := HH.out.inNow _ (dirGet_mem hg)
  have hd : decide (s.room < (s.held : Int) + (b.length : Int)) = false := decide_eq_false hroom
  have hwr : IntKind.i64.wrap ((s.held : Int) + (b.length : Int)) = (s.held : Int) + (b.length : Int) := by rw [IntKind.wrap_i64]; omega
  have he : s.appendErr n b = 0 := by unfold PDisk.appendErr; rw [hg]; simp only; rw [if_neg hroom]
  have HROOM : Hid ((s.file i).b.length + b.length ≤ 1048576) := by
    have h1 := len_le_held hi (reach_now hg)
    have h2 := HH.out.room.2
    unfold Hid
    unfold PDisk.len at h1
    omega
  subst he1
  have hs1 := can_zero hq
  have hap : s.append n b = (0, s1.setFile i ⟨(s.file i).b ++ b, (s.file i).sure⟩) := by unfold PDisk.append; rw [he, hq, hg]; rfl
  rw [hap]
  have hbe : ((0 : Int) == 0) = true := rfl
  have HQ := Lib.hid hq
  have HS1 := Lib.hid hs1
  have HG : Hid (dirGet s1.now n = some i ∧ i ∈ s1.ids ∧ s1.file = s.file) := by
    unfold Hid
    rw [hs1]
    exact ⟨hg, hi, rfl⟩
  clear hap he hq hs1 hg hi ht hroom
  go_enter Tryd.func32, Tryd.ntmps32
  go_wp2_with (go_at_call 65; refine HTH.out.mono ?_; rintro e w1 ⟨rfl, rfl⟩)
  refine reg_start (fun w' => w'.cell? ⟨D, 0, none⟩ = some (.int .i64 s.room)) (by kernel_rfl) ?_ (fun hHeld => ?_)
  · first | exact c0 | (dsimp only; go_keep)
  refine reg_take (v := ?v31) 0 rfl (by kernel_rfl) (by kernel_rfl) (by kernel_rfl) (by rfl) ?hy31 (by assumption) ?_
  case hy31 => (intro w hSw; (try dsimp only at hSw); go_simp; try with_reducible rfl)
  try simp only [Act.put, List.setIfInBounds_toArray, List.set_cons_zero, List.set_cons_succ]
  refine reg_take (v := ?v32) 1 rfl (by kernel_rfl) (by kernel_rfl) (by kernel_rfl) (by rfl) ?hy32 (by assumption) ?_
  case hy32 => (intro w hSw; (try dsimp only at hSw); go_simp; try with_reducible rfl)
  try simp only [Act.put, List.setIfInBounds_toArray, List.set_cons_zero, List.set_cons_succ]
  refine reg_take (v := ?v33) 2 rfl (by kernel_rfl) (by kernel_rfl) (by kernel_rfl) (by rfl) ?hy33 (by assumption) ?_
  case hy33 => (intro w hSw; (try dsimp only at hSw); go_simp; try with_reducible rfl)
  try simp only [Act.put, List.setIfInBounds_toArray, List.set_cons_zero, List.set_cons_succ]
  refine reg_take (v := ?v34) 3 rfl (by kernel_rfl) (by kernel_rfl) (by kernel_rfl) (by rfl) ?hy34 (by assumption) ?_
  case hy34 => (intro w hSw; (try dsimp only at hSw); go_simp; try with_reducible rfl)
  try simp only [Act.put, List.setIfInBounds_toArray, List.set_cons_zero, List.set_cons_succ]
  refine reg_take (v := ?v35) 5 rfl (by kernel_rfl) (by kernel_rfl) (by kernel_rfl) (by rfl) ?hy35 (by assumption) ?_
  case hy35 => (intro w hSw; (try dsimp only at hSw); go_simp; try with_reducible rfl)
  try simp only [Act.put, List.setIfInBounds_toArray, List.set_cons_zero, List.set_cons_succ]
  refine reg_take (v := ?v36) 6 rfl (by kernel_rfl) (by kernel_rfl) (by kernel_rfl) (by rfl) ?hy36 (by assumption) ?_
  case hy36 => (intro w hSw; (try dsimp only at hSw); go_simp; try with_reducible rfl)
  try simp only [Act.put, List.setIfInBounds_toArray, List.set_cons_zero, List.set_cons_succ]
  refine reg_take (v := ?v37) 8 rfl (by kernel_rfl) (by kernel_rfl) (by kernel_rfl) (by rfl) ?hy37 (by assumption) ?_
  case hy37 => (intro w hSw; (try dsimp only at hSw); go_simp; try with_reducible rfl)
  try simp only [Act.put, List.setIfInBounds_toArray, List.set_cons_zero, List.set_cons_succ]
  refine reg_take (v := ?v38) 9 rfl (by kernel_rfl) (by kernel_rfl) (by kernel_rfl) (by rfl) ?hy38 (by assumption) ?_
  case hy38 => (intro w hSw; (try dsimp only at hSw); go_simp; try with_reducible rfl)
  try simp only [Act.put, List.setIfInBounds_toArray, List.set_cons_zero, List.set_cons_succ]
  refine reg_take (v := ?v39) 10 rfl (by kernel_rfl) (by kernel_rfl) (by kernel_rfl) (by rfl) ?hy39 (by assumption) ?_
  case hy39 => (intro w hSw; (try dsimp only at hSw); go_simp; try with_reducible rfl)
  try simp only [Act.put, List.setIfInBounds_toArray, List.set_cons_zero, List.set_cons_succ]
  refine reg_take (v := ?v40) 11 rfl (by kernel_rfl) (by kernel_rfl) (by kernel_rfl) (by rfl) ?hy40 (by assumption) ?_
  case hy40 => (intro w hSw; (try dsimp only at hSw); go_simp; try with_reducible rfl)
  try simp only [Act.put, List.setIfInBounds_toArray, List.set_cons_zero, List.set_cons_succ]
  refine reg_one 4 rfl (by kernel_rfl) (fun K hK => ?_)
  go_simp
  refine (held_any (HH.out.below (below_drewN (Below.refl _ _) 1))).mono ?_
  rintro e w1 ⟨v1, rfl, hb1, rfl⟩
  replace hb1 := below_of_drew hb1
  refine hK.out _ _ ?_ (fun hHeld => ?_)
  · first | exact (cell_below hb1 c0) | (dsimp only; go_keep)
  clear hK K
  try simp only [Act.put, List.setIfInBounds_toArray, List.set_cons_zero, List.set_cons_succ]
  refine reg_take (v := ?v41) 7 rfl (by kernel_rfl) (by kernel_rfl) (by kernel_rfl) (by rfl) ?hy41 (by assumption) ?_
  case hy41 => (intro w hSw; (try dsimp only at hSw); go_simp; try with_reducible rfl)
  try simp only [Act.put, List.setIfInBounds_toArray, List.set_cons_zero, List.set_cons_succ]
  refine reg_take (v := ?v42) 12 rfl (by kernel_rfl) (by kernel_rfl) (by kernel_rfl) (by rfl) ?hy42 (by assumption) ?_
  case hy42 => (intro w hSw; (try dsimp only at hSw); go_simp; try with_reducible rfl)
  try simp only [Act.put, List.setIfInBounds_toArray, List.set_cons_zero, List.set_cons_succ]
  refine reg_take (v := ?v43) 13 rfl (by kernel_rfl) (by kernel_rfl) (by kernel_rfl) (by rfl) ?hy43 (by assumption) ?_
  case hy43 => (intro w hSw; (try dsimp only at hSw); go_simp; try with_reducible rfl)
  try simp only [Act.put, List.setIfInBounds_toArray, List.set_cons_zero, List.set_cons_succ]
  refine reg_done (by kernel_rfl) ?_
  have HB1 := Lib.hid hb1
  clear hb1 hHeld c0
  go_wp2_with (go_at_call 68; refine (can_any (HH.out.below HB1.out) 0).mono ?_; rw [HQ.out]; rintro e w2 ⟨rfl, hD2, hk2, hz2⟩; have HN2 := Lib.hid (now_any hD2); have hlk := run_lookup_dir hD2.mapNow n; rw [HG.out.1] at hlk; simp only [strV, ptrV] at hlk HN2; have HD2 := Lib.hid hD2; have HK2 := Lib.hid hk2; have HZ2 := Lib.hid hz2; clear hD2 hk2 hz2)
  have hBi := HD2.out.fileI i HG.out.2.1
  have hRi := HD2.out.rowI i HG.out.2.1
  have hbi0 := hBi.at 0 _ rfl
  have HBI := Lib.hid hBi
  have HVW : Hid (Sl elU8 w2 ok (.slice A b.length c) b) := (HV.out.below HB1.out Nat.one_pos).kept HK2.out (fun x hx e => HOK.out x hx (e ▸ HH.out.fD)) Nat.one_pos
  have hrl : (s1.file i).b.length + b.length ≤ 1048576 := by rw [HG.out.2.2]; exact HROOM.out
  obtain ⟨Af, cf, hbv, hcf1, hcf2, hxf⟩ := (OwnB.sl hRi).one
  rw [hbv] at hbi0
  have HBV := Lib.hid hbv
  have HRI : Hid (OwnB w2 0 (.slice Af (s1.file i).b.length cf) (s1.file i).b) := by unfold Hid; rw [← hbv]; exact hRi
  clear hBi hRi hbv hxf
  go_wp2_with (first | (go_at_call 67; refine HN2.out.mono ?_; rintro e w3 ⟨rfl, rfl⟩) | (at_builtin; refine app_row (enc := fun b : UInt8 => Value.int .u8 b.toNat) (fun _ => rfl) 0 rfl (.tmp 39) (.tmp 40) 67 5 (.int .u8 0) 1 rfl Tryd.underlying67 infoU8 rfl (.slice Af (s1.file i).b.length cf) (s1.file i).b b (.slice A b.length c) ok rfl rfl HRI.out HVW.out (Nat.zero_le _) (by unfold maxLen; omega) (by omega) ?_; intro v4 w4 hown4 hg4 hlie4; obtain ⟨A4, k4, hv4, _, _, hx4⟩ := (own_sl hown4).1.one; subst hv4; have hB4 := (hg4.block i HBI.out.lt (fun e => own_ne HBI.out HRI.out (by decide) e.symm rfl)).trans HBI.out; have hc4 := Blk.at hB4 0 _ rfl; have hf4 := Blk.frozen hB4 0; rw [HBV.out] at hc4; have HB4 := Lib.hid hB4; have HO4 := Lib.hid hown4; have HG4 := Lib.hid hg4; have HL4 := Lib.hid hlie4; clear hB4 hown4 hg4 hlie4 hx4))
  go_ret
  have hB4 : Blk w4 i [bv i, .int .i64 (s1.file i).sure] 129 := HB4.out
  have HO5 : OwnB w4 0 (.slice A4 ((s1.file i).b.length + b.length) k4) ((s1.file i).b ++ b) := by
    have h := HO4.out
    unfold OwnB
    rw [List.length_append] at h ⊢
    exact h
  have HL5 := HL4.out
  rw [List.length_append] at HL5
  have hkeep : ∀ x, x ≠ i → some x ≠ (bv i).ownBlock → x < w2.heap.size → (w4.setCell ⟨i, 0, none⟩ (.slice A4 ((s1.file i).b.length + b.length) k4)).heap[x]? = w2.heap[x]? := fun x h1 h2 h3 =>
    (Below.heap_setCell w4 _ _ x h1).trans (HG4.out.block x h3 (by rw [HBV.out] at h2; exact h2))
  have hfl := HG.out.2.2
  have hD5 := HD2.out.setFile (w' := w4.setCell ⟨i, 0, none⟩ (.slice A4 ((s1.file i).b.length + b.length) k4)) HG.out.2.1 (v' := .slice A4 ((s1.file i).b.length + b.length) k4) (f := ⟨(s.file i).b ++ b, (s.file i).sure⟩) hkeep
    (by rw [← hfl]; exact hB4.set 0 _) (by
      rw [← hfl]
      refine own_at (w := w4) HO5 fun x hx => Below.heap_setCell w4 _ _ x ?_
      exact own_ne hB4 HO5 (by decide) hx) (fun x hx => by
      rcases HL5 with e | ⟨y, e, hy⟩
      · rw [HBV.out, ← e]; exact .inl hx
      · rw [e] at hx; injection hx with hx; subst hx; exact .inr hy) (by
      have h1 := HROOM.out
      have h2 := (HH.out.bytes i (by have := HG.out.2.1; rw [HS1.out] at this; exact this)).2
      simp only [List.length_append]
      omega)
  refine ⟨_, _, _, _, rfl, hD5.keepF (fun _ _ _ => rfl) ?_, ?_⟩
  · intro x hx
    rcases hx with hx | hx
    · exact .inl hx
    · exact .inr (by have := HB1.out.size; rw [HZ2.out] at hx; omega)
  · refine ((Kept.of_below HB1.out).trans HK2.out fun x _ e => e ▸ HH.out.fD).trans (G := fun x => x = i ∨ some x = (bv i).ownBlock) ⟨HG4.out.os, HG4.out.tape, HG4.out.output, ?_, fun x hx hn => hkeep x (fun e => hn (.inl e)) (fun e => hn (.inr e)) hx⟩ ?_
    · have := HG4.out.size; simpa [World.setCell] using this
    · intro x _ hx
      rcases hx with rfl | hx
      · exact HD2.out.fI _ HG.out.2.1
      · exact HD2.out.fB i HG.out.2.1 x hx.symm
theorem append_any {F : Nat → Prop} {w : World} {D : Nat} {s : PDisk} {mS : Nat} {mT : List Nat} {vT : Value} {bv : Nat → Value} (h : DiskAt F w D s mS mT vT bv) (n : List UInt8) (v : Value) (b : List UInt8) (ok : Nat → Prop) (hv : Sl elU8 w ok v b)
    (hok : ∀ x, ok x → ¬ F x) (hl : b.length ≤ 1000000000) : Calls Tryd.prog 32 #[ptrV D, strV n, v] w (OpPost F w D (s.append n b)) := by
  rcases there_cases s n with ⟨hg, ht⟩ | ⟨i, hg, ht⟩
  · exact append_none h n v b ok hv hok hl hg ht
  · by_cases hroom : s.room < (s.held : Int) + (b.length : Int)
    · exact append_full h n v b ok hv hok hl hg ht hroom
    · rcases hq : s.can 0 with ⟨e1, s1⟩
      by_cases he1 : e1 = 0
      · exact append_ok h n v b ok hv hok hl hg ht hroom hq he1
      · exact append_down h n v b ok hv hok hl hg ht hroom hq he1

end Go.Proofs.YtocmnhjgknaocaaDoor
