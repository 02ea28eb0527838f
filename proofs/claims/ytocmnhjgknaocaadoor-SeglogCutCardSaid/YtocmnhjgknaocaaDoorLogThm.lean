import Derived.Test.YtocmnhjgknaocaaDoorDigits
import Derived.Test.YtocmnhjgknaocaaDoorLog7
set_option linter.unusedVariables false
set_option linter.unusedSimpArgs false
namespace Go.Proofs.YtocmnhjgknaocaaDoor
open Go.RowKit Tb

/-! ### files of segments: plain laws -/
def segDir : Nat → List Nat → Dir
  | _, [] => []
  | k, i :: l => (segName k, i) :: segDir (k + 1) l
theorem segDir_len : ∀ (l : List Nat) (k : Nat), (segDir k l).length = l.length
  | [], k => rfl
  | i :: l, k => by simp [segDir, segDir_len l]
theorem segDir_snoc : ∀ (l : List Nat) (k f : Nat), segDir k (l ++ [f]) = segDir k l ++ [(segName (k + l.length), f)]
  | [], k, f => rfl
  | i :: l, k, f => by
    rw [List.cons_append, segDir, segDir, segDir_snoc l, List.cons_append, List.length_cons, show k + (l.length + 1) = k + 1 + l.length from by omega]
theorem segDir_get : ∀ (l : List Nat) (k j : Nat), k + l.length < 10000000000 → j < l.length → dirGet (segDir k l) (segName (k + j)) = l[j]?
  | [], k, j, h, hj => by simp at hj
  | i :: l, k, 0, h, hj => by
    show (if segName k = segName k then some i else dirGet (segDir (k + 1) l) (segName k)) = _
    rw [if_pos rfl]
    rfl
  | i :: l, k, j + 1, h, hj => by
    rw [List.length_cons] at h hj
    show (if segName (k + (j + 1)) = segName k then some i else dirGet (segDir (k + 1) l) (segName (k + (j + 1)))) = _
    rw [if_neg (fun e => by have := segName_inj (by omega) (by omega) e; omega)]
    have := segDir_get l (k + 1) j (by omega) (by omega)
    rw [show k + (j + 1) = k + 1 + j from by omega, this]
    rfl
theorem segDir_none : ∀ (l : List Nat) (k m : Nat), k + l.length ≤ m → m < 10000000000 → dirGet (segDir k l) (segName m) = none
  | [], k, m, h, hm => rfl
  | i :: l, k, m, h, hm => by
    rw [List.length_cons] at h
    show (if segName m = segName k then some i else dirGet (segDir (k + 1) l) (segName m)) = _
    rw [if_neg (fun e => by have := segName_inj (by omega) (by omega) e; omega)]
    exact segDir_none l (k + 1) m (by omega) hm

/-- The files of segments from seg0 on, and what each holds. -/
structure Segs (s : PDisk) (seg0 : Nat) (bs : List (List UInt8)) : Prop where
  up : s.down = false
  fuse : s.fuse = -1
  room : s.room = 131072
  now : s.now = segDir seg0 s.ids
  len : s.ids.length = bs.length
  nodup : s.ids.Nodup
  file : ∀ j (h : j < s.ids.length) (h2 : j < bs.length), (s.file s.ids[j]).b = bs[j]
  sm : seg0 + bs.length < 5000000000
  few : bs.length ≤ 100
theorem Segs.can {s : PDisk} {seg0 : Nat} {bs : List (List UInt8)} (h : Segs s seg0 bs) : s.can 0 = (0, s) := by
  unfold PDisk.can
  rw [h.up, h.fuse]
  simp
theorem Segs.get {s : PDisk} {seg0 : Nat} {bs : List (List UInt8)} (h : Segs s seg0 bs) {j : Nat} (hj : j < bs.length) : dirGet s.now (segName (seg0 + j)) = some (s.ids[j]'(by rw [h.len]; exact hj)) := by
  have hl := h.len
  have hs := h.sm
  rw [h.now, segDir_get s.ids seg0 j (by omega) (by omega), List.getElem?_eq_getElem]
theorem Segs.read {s : PDisk} {seg0 : Nat} {bs : List (List UInt8)} (h : Segs s seg0 bs) {j : Nat} (hj : j < bs.length) : s.read (segName (seg0 + j)) = .ok bs[j] := by
  unfold PDisk.read
  rw [h.up, h.get hj]
  simp only [if_false, Bool.false_eq_true]
  rw [h.file j (by rw [h.len]; exact hj) hj]
theorem Segs.held {s : PDisk} {seg0 : Nat} {bs : List (List UInt8)} (h : Segs s seg0 bs) : s.held ≤ (bs.map List.length).sum := by
  have key : ∀ (l : List Nat), sumLen s (l.filter s.reach) ≤ sumLen s l := by
    intro l
    induction l with
    | nil => simp [sumLen]
    | cons i l ih =>
      unfold sumLen at *
      rw [List.filter_cons]
      split
      · rw [List.map_cons, List.sum_cons, List.map_cons, List.sum_cons]; omega
      · rw [List.map_cons, List.sum_cons]; omega
  have h2 : s.ids.map s.len = bs.map List.length := by
    apply List.ext_getElem
    · rw [List.length_map, List.length_map, h.len]
    · intro j h1 h2
      rw [List.getElem_map, List.getElem_map]
      unfold PDisk.len
      rw [h.file j (by simpa using h1) (by simpa using h2)]
  have h3 := key s.ids
  unfold PDisk.held
  rw [show sumLen s s.ids = (bs.map List.length).sum from by unfold sumLen; rw [h2]] at h3
  exact h3
theorem now_setFile (s : PDisk) (i : Nat) (f : PFile) : (s.setFile i f).now = s.now := rfl
theorem Segs.setFile {s : PDisk} {seg0 : Nat} {bs : List (List UInt8)} (h : Segs s seg0 bs) {j : Nat} (hj : j < bs.length) (f : PFile) : Segs (s.setFile (s.ids[j]'(by rw [h.len]; exact hj)) f) seg0 (bs.set j f.b) where
  up := h.up
  fuse := h.fuse
  room := h.room
  now := h.now
  len := by rw [List.length_set]; exact h.len
  nodup := h.nodup
  file := fun k h1 h2 => by
    have h1 : k < s.ids.length := h1
    show (if s.ids[k] = s.ids[j]'_ then f else s.file s.ids[k]).b = _
    rw [List.getElem_set]
    by_cases e : j = k
    · subst e
      rw [if_pos rfl, if_pos rfl]
    · have hne : s.ids[k] ≠ s.ids[j]'(by rw [h.len]; exact hj) := fun e2 => e ((List.getElem_inj h.nodup).1 e2).symm
      rw [if_neg hne, if_neg e]
      exact h.file k h1 (by rw [← h.len]; exact h1)
  sm := by rw [List.length_set]; exact h.sm
  few := by rw [List.length_set]; exact h.few
theorem Segs.append {s : PDisk} {seg0 : Nat} {bs : List (List UInt8)} (h : Segs s seg0 bs) {j : Nat} (hj : j < bs.length) (b : List UInt8) (hr : (bs.map List.length).sum + b.length ≤ 131072) :
    (s.append (segName (seg0 + j)) b).1 = 0 ∧ Segs (s.append (segName (seg0 + j)) b).2 seg0 (bs.set j (bs[j] ++ b)) := by
  have hh := h.held
  have he : s.appendErr (segName (seg0 + j)) b = 0 := by
    unfold PDisk.appendErr
    rw [h.get hj]
    simp only
    rw [h.room, if_neg (by omega)]
  have ha : s.append (segName (seg0 + j)) b = (0, s.setFile (s.ids[j]'(by rw [h.len]; exact hj)) ⟨(s.file (s.ids[j]'(by rw [h.len]; exact hj))).b ++ b, (s.file (s.ids[j]'(by rw [h.len]; exact hj))).sure⟩) := by
    unfold PDisk.append
    rw [he, h.can, h.get hj]
    rfl
  rw [ha]
  refine ⟨rfl, ?_⟩
  have := h.setFile hj ⟨(s.file (s.ids[j]'(by rw [h.len]; exact hj))).b ++ b, (s.file (s.ids[j]'(by rw [h.len]; exact hj))).sure⟩
  rw [h.file j (by rw [h.len]; exact hj) hj] at this ⊢
  exact this
theorem Segs.append' {s : PDisk} {seg0 : Nat} {bs : List (List UInt8)} (h : Segs s seg0 bs) {j : Nat} (hj : j < bs.length) (b : List UInt8) (h0 : (s.append (segName (seg0 + j)) b).1 = 0) :
    Segs (s.append (segName (seg0 + j)) b).2 seg0 (bs.set j (bs[j] ++ b)) := by
  have he : s.appendErr (segName (seg0 + j)) b = 0 := by
    have h1 : (s.can (s.appendErr (segName (seg0 + j)) b)).1 = 0 := by
      unfold PDisk.append at h0
      split at h0
      · assumption
      · exact h0
    rcases Classical.em (s.appendErr (segName (seg0 + j)) b = 0) with h2 | h2
    · exact h2
    · exact absurd h1 (can_ne h2)
  have ha : s.append (segName (seg0 + j)) b = (0, s.setFile (s.ids[j]'(by rw [h.len]; exact hj)) ⟨(s.file (s.ids[j]'(by rw [h.len]; exact hj))).b ++ b, (s.file (s.ids[j]'(by rw [h.len]; exact hj))).sure⟩) := by
    unfold PDisk.append
    rw [he, h.can, h.get hj]
    rfl
  rw [ha]
  have := h.setFile hj ⟨(s.file (s.ids[j]'(by rw [h.len]; exact hj))).b ++ b, (s.file (s.ids[j]'(by rw [h.len]; exact hj))).sure⟩
  rw [h.file j (by rw [h.len]; exact hj) hj] at this ⊢
  exact this
theorem Segs.cut {s : PDisk} {seg0 : Nat} {bs : List (List UInt8)} (h : Segs s seg0 bs) {j : Nat} (hj : j < bs.length) (k : Nat) (hk : k ≤ bs[j].length) :
    (s.cut (segName (seg0 + j)) k).1 = 0 ∧ Segs (s.cut (segName (seg0 + j)) k).2 seg0 (bs.set j (bs[j].take k)) := by
  have hf := h.file j (by rw [h.len]; exact hj) hj
  have he : s.cutErr (segName (seg0 + j)) k = 0 := by
    unfold PDisk.cutErr
    rw [h.get hj]
    simp only
    rw [hf, if_neg (by omega)]
  have ha : s.cut (segName (seg0 + j)) k = (0, s.setFile (s.ids[j]'(by rw [h.len]; exact hj)) ⟨(s.file (s.ids[j]'(by rw [h.len]; exact hj))).b.take k, min (s.file (s.ids[j]'(by rw [h.len]; exact hj))).sure k⟩) := by
    unfold PDisk.cut
    rw [he, h.can, h.get hj]
    rfl
  rw [ha]
  refine ⟨rfl, ?_⟩
  have := h.setFile hj ⟨(s.file (s.ids[j]'(by rw [h.len]; exact hj))).b.take k, min (s.file (s.ids[j]'(by rw [h.len]; exact hj))).sure k⟩
  rw [hf] at this ⊢
  exact this
theorem now_snoc (s : PDisk) (d : Dir) : ({ s with steps := s.steps ++ [d] } : PDisk).now = d := by
  unfold PDisk.now
  simp
theorem Segs.create {s : PDisk} {seg0 : Nat} {bs : List (List UInt8)} (h : Segs s seg0 bs) (f : Nat) (hf : f ∉ s.ids) (hfew : bs.length < 60) (hsm : seg0 ≤ 4000000000) :
    (s.create (segName (seg0 + bs.length)) f).1 = 0 ∧ Segs (s.create (segName (seg0 + bs.length)) f).2 seg0 (bs ++ [[]]) := by
  have hs := h.sm
  have hl := h.len
  have hg : dirGet s.now (segName (seg0 + bs.length)) = none := by rw [h.now]; exact segDir_none s.ids seg0 _ (by omega) (by omega)
  have hnl : s.now.length = bs.length := by rw [h.now, segDir_len, hl]
  have he : s.createErr (segName (seg0 + bs.length)) = 0 := by
    unfold PDisk.createErr
    rw [if_neg (by rw [nameOk_seg (by omega)]; simp), hg, if_neg (by simp), if_neg (by omega)]
  have ha : s.create (segName (seg0 + bs.length)) f = (0, { (s.add f) with steps := s.steps ++ [dirPut s.now (segName (seg0 + bs.length)) f] }) := by
    unfold PDisk.create
    rw [he, h.can]
    rfl
  rw [ha]
  refine ⟨rfl, ?_⟩
  exact {
    up := h.up
    fuse := h.fuse
    room := h.room
    now := by
      rw [show ({ (s.add f) with steps := s.steps ++ [dirPut s.now (segName (seg0 + bs.length)) f] } : PDisk).now = dirPut s.now (segName (seg0 + bs.length)) f from now_snoc (s.add f) _, dirPut_new hg]
      show _ = segDir seg0 (s.ids ++ [f])
      rw [segDir_snoc, h.now, hl]
    len := by show (s.ids ++ [f]).length = _; simp [hl]
    nodup := nodup_snoc h.nodup hf
    file := fun j h1 h2 => by
      have h1 : j < (s.ids ++ [f]).length := h1
      show (if (s.ids ++ [f])[j] = f then (⟨[], 0⟩ : PFile) else s.file (s.ids ++ [f])[j]).b = _
      by_cases hj : j < s.ids.length
      · have hne : s.ids[j] ≠ f := fun e => hf (e ▸ List.getElem_mem _)
        rw [List.getElem_append_left hj, List.getElem_append_left (by omega), if_neg hne]
        exact h.file j hj (by omega)
      · have hj2 : j = s.ids.length := by simp at h1; omega
        subst hj2
        have e1 : (s.ids ++ [f])[s.ids.length]'h1 = f := by simp
        have e2 : (bs ++ [[]])[s.ids.length]'h2 = [] := by simp [hl]
        rw [e1, e2, if_pos rfl]
    sm := by rw [List.length_append]; simp; omega
    few := by rw [List.length_append]; simp; omega }
/-- An empty disk, and the first file. -/
theorem Segs.first (seg0 f : Nat) (h : seg0 ≤ 4000000000) : ((PDisk.new 131072).create (segName seg0) f).1 = 0 ∧ Segs ((PDisk.new 131072).create (segName seg0) f).2 seg0 [[]] := by
  have h0 : Segs (PDisk.new 131072) seg0 [] := {
    up := rfl
    fuse := rfl
    room := rfl
    now := rfl
    len := rfl
    nodup := List.nodup_nil
    file := fun j h1 h2 => absurd h2 (by simp)
    sm := by simp; omega
    few := by simp }
  exact h0.create f (by show f ∉ []; simp) (by simp) h

end Go.Proofs.YtocmnhjgknaocaaDoor

set_option linter.unusedVariables false
set_option linter.unusedSimpArgs false
namespace Go.Proofs.YtocmnhjgknaocaaDoor
open Go.RowKit Tb

/-! ### records at their places: plain laws -/
structure Place where
  r : Rec
  seg : Nat
  at_ : Nat
def recsIn (ps : List Place) (j : Nat) : List Rec := (ps.filter fun p => p.seg == j).map (·.r)
def segBytes (seg0 n : Nat) (ps : List Place) : List (List UInt8) := (List.range n).map fun j => flat (recsIn ps (seg0 + j))
theorem recsIn_snoc (ps : List Place) (p : Place) (j : Nat) : recsIn (ps ++ [p]) j = recsIn ps j ++ if p.seg = j then [p.r] else [] := by
  unfold recsIn
  rw [List.filter_append, List.map_append]
  by_cases h : p.seg = j
  · rw [if_pos h]; simp [h]
  · rw [if_neg h]; simp [h]
theorem recsIn_append (ps qs : List Place) (j : Nat) : recsIn (ps ++ qs) j = recsIn ps j ++ recsIn qs j := by
  unfold recsIn
  rw [List.filter_append, List.map_append]
theorem segBytes_len (seg0 n : Nat) (ps : List Place) : (segBytes seg0 n ps).length = n := by simp [segBytes]
theorem segBytes_get {seg0 n : Nat} {ps : List Place} {j : Nat} (h : j < (segBytes seg0 n ps).length) : (segBytes seg0 n ps)[j] = flat (recsIn ps (seg0 + j)) := by simp [segBytes]
theorem flat_one (r : Rec) : flat [r] = rawOf r := by simp [flat]
theorem segBytes_snoc {seg0 n : Nat} {ps : List Place} {p : Place} {j : Nat} (hp : p.seg = seg0 + j) (hj : j < n) :
    segBytes seg0 n (ps ++ [p]) = (segBytes seg0 n ps).set j ((segBytes seg0 n ps)[j]'(by rw [segBytes_len]; exact hj) ++ rawOf p.r) := by
  apply List.ext_getElem
  · rw [List.length_set, segBytes_len, segBytes_len]
  · intro k h1 h2
    rw [segBytes_get, List.getElem_set, recsIn_snoc]
    by_cases e : j = k
    · subst e
      rw [if_pos hp, if_pos rfl, segBytes_get, flat_append, flat_one]
    · rw [if_neg e, if_neg (by omega), segBytes_get, List.append_nil]
theorem segBytes_more {seg0 n : Nat} {ps : List Place} (h : ∀ p ∈ ps, p.seg < seg0 + n) : segBytes seg0 (n + 1) ps = segBytes seg0 n ps ++ [[]] := by
  unfold segBytes
  rw [List.range_succ, List.map_append]
  congr 1
  have : recsIn ps (seg0 + n) = [] := by
    unfold recsIn
    rw [List.filter_eq_nil_iff.2]
    · rfl
    · intro p hp
      have := h p hp
      simp
      omega
  simp [this, flat]
theorem sum_set : ∀ (bs : List (List UInt8)) (j : Nat) (x : List UInt8) (h : j < bs.length), ((bs.set j x).map List.length).sum + bs[j].length = (bs.map List.length).sum + x.length
  | [], j, x, h => by simp at h
  | b :: bs, 0, x, h => by simp; omega
  | b :: bs, j + 1, x, h => by
    have := sum_set bs j x (by simpa using h)
    simp only [List.set_cons_succ, List.map_cons, List.sum_cons, List.getElem_cons_succ]
    omega
theorem raw_le {r : Rec} (h : OkRec r) : (rawOf r).length ≤ 175 ∧ 11 ≤ (rawOf r).length := by
  have := h.body
  rw [rawOf_length]
  omega

/-- A log whose records lie at their places. -/
structure LState (s : PDisk) (g : PLog) (seg0 n : Nat) (size : Int) (ps : List Place) (T : Nat) : Prop where
  segs : Segs s seg0 (segBytes seg0 n ps)
  gseg : g.seg + 1 = seg0 + n
  gmost : g.most = size
  gat : g.at_ = (flat (recsIn ps g.seg)).length
  ok : ∀ p ∈ ps, OkRec p.r ∧ seg0 ≤ p.seg ∧ p.seg < seg0 + n
  laid : ∀ i (h : i < ps.length), (ps[i]).at_ = (flat (recsIn (ps.take i) (ps[i]).seg)).length
  tot : ((segBytes seg0 n ps).map List.length).sum ≤ T
  small : seg0 ≤ 1000
  many : n ≤ 59
  long : s.steps.length ≤ 59
theorem LState.pos {s : PDisk} {g : PLog} {seg0 n : Nat} {size : Int} {ps : List Place} {T : Nat} (h : LState s g seg0 n size ps T) (hs : seg0 ≤ g.seg) : 0 < n := by have := h.gseg; omega

theorem laid_snoc {ps : List Place} {p : Place} (h : ∀ i (h : i < ps.length), (ps[i]).at_ = (flat (recsIn (ps.take i) (ps[i]).seg)).length) (hp : p.at_ = (flat (recsIn ps p.seg)).length) :
    ∀ i (h : i < (ps ++ [p]).length), ((ps ++ [p])[i]).at_ = (flat (recsIn ((ps ++ [p]).take i) ((ps ++ [p])[i]).seg)).length := by
  intro i hi
  by_cases hlt : i < ps.length
  · have e1 : (ps ++ [p])[i] = ps[i] := List.getElem_append_left hlt
    rw [e1, List.take_append_of_le_length (by omega)]
    exact h i hlt
  · have hi2 : i = ps.length := by simp at hi; omega
    subst hi2
    have e1 : (ps ++ [p])[ps.length]'hi = p := by simp
    rw [e1, List.take_left]
    exact hp
theorem append_steps (s : PDisk) (n b : List UInt8) : (s.append n b).2.steps = s.steps := by
  have hc : ∀ e, (s.can e).2.steps = s.steps := by
    intro e
    unfold PDisk.can
    split
    · rfl
    · split
      · rfl
      · split
        · rfl
        · split <;> rfl
  unfold PDisk.append
  split
  · split
    · exact hc _
    · exact hc _
  · exact hc _

theorem LState.append {s : PDisk} {g : PLog} {seg0 n : Nat} {size : Int} {ps : List Place} {T : Nat} (h : LState s g seg0 n size ps T) {r : Rec} (hr : OkRec r) (f : Nat) (hf : f ∉ s.ids) (hT : T + 175 ≤ 131072) (hn : n < 59) (hn0 : 0 < n) (hst : s.steps.length < 59) :
    ∃ n' sg a s' g', logAppend s g r f = ((sg, a, 0), s', g') ∧ LState s' g' seg0 n' size (ps ++ [⟨r, sg, a⟩]) (T + 175) ∧ n ≤ n' ∧ n' ≤ n + 1 ∧ sg = g'.seg ∧ ((sg = g.seg ∧ a = g.at_) ∨ (sg = g.seg + 1 ∧ a = 0)) ∧ s'.steps.length ≤ s.steps.length + 1 ∧ g'.at_ ≤ g.at_ + 175 := by
  have hraw := raw_le hr
  have hgs := h.gseg
  have hsm := h.small
  have hL : (segBytes seg0 n ps).length = n := segBytes_len _ _ _
  by_cases hc : 0 < g.at_ ∧ g.most < (g.at_ : Int) + ((rawOf r).length : Int)
  · have hno : ∀ p ∈ ps, p.seg < seg0 + n := fun p hp => (h.ok p hp).2.2
    have hcr := h.segs.create f hf (by rw [hL]; omega) (by omega)
    rw [hL, ← segBytes_more hno] at hcr
    have hL2 : (segBytes seg0 (n + 1) ps).length = n + 1 := segBytes_len _ _ _
    have ht : logTurn s g f = (0, (s.create (segName (seg0 + n)) f).2, { g with seg := seg0 + n, at_ := 0, begun := true }) := by
      unfold logTurn
      rw [if_pos (by omega), show g.seg + 1 = seg0 + n from hgs, if_pos hcr.1]
    have htot : ((segBytes seg0 (n + 1) ps).map List.length).sum ≤ T := by
      rw [segBytes_more hno, List.map_append, List.sum_append]
      have := h.tot
      simpa using this
    have hap := hcr.2.append (j := n) (by rw [hL2]; omega) (rawOf r) (by omega)
    have hemp : recsIn ps (seg0 + n) = [] := by
      unfold recsIn
      rw [List.filter_eq_nil_iff.2]
      · rfl
      · intro p hp
        have := hno p hp
        simp
        omega
    have hsg := segBytes_snoc (seg0 := seg0) (n := n + 1) (ps := ps) (p := ⟨r, seg0 + n, 0⟩) (j := n) rfl (by omega)
    have hss := sum_set (segBytes seg0 (n + 1) ps) n ((segBytes seg0 (n + 1) ps)[n]'(by rw [hL2]; omega) ++ rawOf r) (by rw [hL2]; omega)
    have hq : logAppend s g r f = ((seg0 + n, 0, 0), ((s.create (segName (seg0 + n)) f).2.append (segName (seg0 + n)) (rawOf r)).2, { g with seg := seg0 + n, at_ := 0 + (rawOf r).length, begun := true, dirty := min g.dirty (seg0 + n) }) := by
      unfold logAppend
      rw [recBytes_ok hr]
      simp only
      rw [if_pos hc, ht]
      unfold logPut
      simp only
      rw [if_neg (by simp), if_pos hap.1]
    have hsteps : ((s.create (segName (seg0 + n)) f).2.append (segName (seg0 + n)) (rawOf r)).2.steps.length = s.steps.length + 1 := by
      rw [append_steps]
      have h1 := hcr.1
      have hce : (s.can (s.createErr (segName (seg0 + n)))).1 = 0 := by
        unfold PDisk.create at h1
        split at h1
        · assumption
        · exact h1
      have he : s.createErr (segName (seg0 + n)) = 0 := by
        rcases Classical.em (s.createErr (segName (seg0 + n)) = 0) with h2 | h2
        · exact h2
        · exact absurd hce (can_ne h2)
      unfold PDisk.create
      rw [he, h.segs.can]
      simp
    refine ⟨n + 1, _, _, _, _, hq, ?_, by omega, Nat.le_refl _, rfl, .inr ⟨by omega, rfl⟩, by omega, by show 0 + (rawOf r).length ≤ _; omega⟩
    exact {
      segs := by rw [hsg]; exact hap.2
      gseg := by show seg0 + n + 1 = _; omega
      gmost := h.gmost
      gat := by
        show 0 + (rawOf r).length = (flat (recsIn (ps ++ [⟨r, seg0 + n, 0⟩]) (seg0 + n))).length
        rw [recsIn_snoc, hemp, if_pos rfl, List.nil_append, flat_one, Nat.zero_add]
      ok := fun p hp => by
        rcases List.mem_append.1 hp with hp | hp
        · exact ⟨(h.ok p hp).1, (h.ok p hp).2.1, by have := (h.ok p hp).2.2; omega⟩
        · rw [List.mem_singleton] at hp
          subst hp
          exact ⟨hr, by show seg0 ≤ seg0 + n; omega, by show seg0 + n < _; omega⟩
      laid := laid_snoc h.laid (by show 0 = _; rw [hemp]; simp [flat])
      tot := by
        rw [hsg]
        show (((segBytes seg0 (n + 1) ps).set n ((segBytes seg0 (n + 1) ps)[n]'(by rw [hL2]; omega) ++ rawOf r)).map List.length).sum ≤ _
        rw [List.length_append] at hss
        omega
      small := hsm
      many := by omega
      long := by rw [hsteps]; omega }
  · have hj : n - 1 < (segBytes seg0 n ps).length := by omega
    have hgs2 : g.seg = seg0 + (n - 1) := by omega
    have hap := h.segs.append hj (rawOf r) (by have := h.tot; omega)
    have hsg := segBytes_snoc (seg0 := seg0) (n := n) (ps := ps) (p := ⟨r, g.seg, g.at_⟩) (j := n - 1) hgs2 (by omega)
    have hss := sum_set (segBytes seg0 n ps) (n - 1) ((segBytes seg0 n ps)[n - 1]'hj ++ rawOf r) hj
    rw [← hgs2] at hap
    have hq : logAppend s g r f = ((g.seg, g.at_, 0), (s.append (segName g.seg) (rawOf r)).2, { g with at_ := g.at_ + (rawOf r).length, dirty := min g.dirty g.seg }) := by
      unfold logAppend
      rw [recBytes_ok hr]
      simp only
      rw [if_neg hc]
      unfold logPut
      simp only
      rw [if_neg (by simp), if_pos hap.1]
    refine ⟨n, _, _, _, _, hq, ?_, Nat.le_refl _, by omega, rfl, .inl ⟨rfl, rfl⟩, by rw [append_steps]; omega, by show g.at_ + (rawOf r).length ≤ _; omega⟩
    exact {
      segs := by rw [hsg]; exact hap.2
      gseg := hgs
      gmost := h.gmost
      gat := by
        show g.at_ + (rawOf r).length = (flat (recsIn (ps ++ [⟨r, g.seg, g.at_⟩]) g.seg)).length
        rw [recsIn_snoc, if_pos rfl, flat_append, flat_one, List.length_append, ← h.gat]
      ok := fun p hp => by
        rcases List.mem_append.1 hp with hp | hp
        · exact h.ok p hp
        · rw [List.mem_singleton] at hp
          subst hp
          exact ⟨hr, by show seg0 ≤ g.seg; omega, by show g.seg < _; omega⟩
      laid := laid_snoc h.laid h.gat
      tot := by
        rw [hsg]
        show (((segBytes seg0 n ps).set (n - 1) ((segBytes seg0 n ps)[n - 1]'hj ++ rawOf r)).map List.length).sum ≤ _
        rw [List.length_append] at hss
        have := h.tot
        omega
      small := hsm
      many := by have := h.many; omega
      long := by rw [append_steps]; have := h.long; omega }

/-- What is read at a place. -/
theorem LState.at {s : PDisk} {g : PLog} {seg0 n : Nat} {size : Int} {ps : List Place} {T : Nat} (h : LState s g seg0 n size ps T) {i : Nat} (hi : i < ps.length) : logAt s (ps[i]).seg (ps[i]).at_ = .ok ((ps[i]).r, (rawOf (ps[i]).r).length) := by
  have hm := h.ok ps[i] (List.getElem_mem _)
  have hsm := h.small
  have hmany := h.many
  obtain ⟨j, hj⟩ : ∃ j, (ps[i]).seg = seg0 + j := ⟨(ps[i]).seg - seg0, by omega⟩
  have hjn : j < (segBytes seg0 n ps).length := by rw [segBytes_len]; omega
  have hrd := h.segs.read hjn
  rw [segBytes_get, ← hj] at hrd
  have hsplit : recsIn ps (ps[i]).seg = recsIn (ps.take i) (ps[i]).seg ++ (ps[i]).r :: recsIn (ps.drop (i + 1)) (ps[i]).seg := by
    have hps : ps = ps.take i ++ ([ps[i]] ++ ps.drop (i + 1)) := by
      rw [List.singleton_append, ← List.drop_eq_getElem_cons hi, List.take_append_drop]
    have key : ∀ q, recsIn ps q = recsIn (ps.take i) q ++ (recsIn [ps[i]] q ++ recsIn (ps.drop (i + 1)) q) := fun q => (congrArg (fun l => recsIn l q) hps).trans (by rw [recsIn_append, recsIn_append])
    rw [key]
    congr 1
    have : recsIn [ps[i]] (ps[i]).seg = [(ps[i]).r] := by simp [recsIn]
    rw [this]
    rfl
  have hat := h.laid i hi
  unfold logAt
  rw [if_pos (by omega), hrd]
  simp only
  rw [hsplit, flat_append, flat_cons]
  unfold logRec
  rw [if_neg (by rw [hat, List.length_append]; omega), hat, List.drop_left, recAll_cons hm.1]

end Go.Proofs.YtocmnhjgknaocaaDoor
