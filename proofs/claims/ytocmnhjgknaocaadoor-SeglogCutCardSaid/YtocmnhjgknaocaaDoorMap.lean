import Derived.Test.YtocmnhjgknaocaaDoorRec6
import Derived.Shelf.SlMaps.Clone
set_option linter.unusedVariables false
set_option linter.unusedSimpArgs false
namespace Go.Proofs.YtocmnhjgknaocaaDoor
open Go.RowKit Tb
open Go.ChangeMaps (setBlock)

/-- Names of files, and where each lies. -/
abbrev Dir := List (List UInt8 × Nat)
def ptrV (b : Nat) : Value := .pointer (some ⟨b, 0, none⟩)
def entOf (p : List UInt8 × Nat) : Value × Value := (strV p.1, ptrV p.2)
def dirGet : Dir → List UInt8 → Option Nat
  | [], _ => none
  | p :: l, s => if s = p.1 then some p.2 else dirGet l s
def dirPut : Dir → List UInt8 → Nat → Dir
  | [], s, b => [(s, b)]
  | p :: l, s, b => if s = p.1 then (s, b) :: l else p :: dirPut l s b
/-- No entry has a stamp twice, nor one that is still to come. -/
def Stamps (es : Array MapEntry) (clk : Nat) : Prop := (∀ x ∈ es.toList, x.born < clk) ∧ (es.toList.map (·.born)).Nodup
def KeysOnce (l : Dir) : Prop := (l.map Prod.fst).Nodup
def MapIs (w : World) (b : Nat) (l : Dir) : Prop := ∃ es clk, w.heap[b]? = some (.map es clk) ∧ es.toList.map (fun e => (e.key, e.val)) = l.map entOf ∧ Stamps es clk ∧ KeysOnce l
theorem MapIs.lt {w : World} {b : Nat} {l : Dir} (h : MapIs w b l) : b < w.heap.size := by
  obtain ⟨es, clk, hb, _⟩ := h
  exact (Array.getElem?_eq_some_iff.1 hb).1
theorem MapIs.keep {w w' : World} {b : Nat} {l : Dir} (h : MapIs w b l) (hk : w'.heap[b]? = w.heap[b]?) : MapIs w' b l := by
  obtain ⟨es, clk, hb, he⟩ := h
  exact ⟨es, clk, hk.trans hb, he⟩
theorem MapIs.new (w : World) : MapIs (w.alloc (.map #[] 0)) w.heap.size [] := ⟨#[], 0, heap_alloc_new w _, rfl, ⟨fun x h => by simp at h, by simp⟩, List.nodup_nil⟩
theorem MapIs.cells {w : World} {b b' : Nat} {l : Dir} {cs : List Value} {t : TypeId} (h : MapIs w b l) (hB : Blk w b' cs t) : b ≠ b' := by
  rintro rfl
  obtain ⟨es, clk, hb, _⟩ := h
  unfold Blk at hB
  rw [hb] at hB
  cases hB

theorem str_beq (a b : List UInt8) : ((⟨a.toArray⟩ : ByteArray) == ⟨b.toArray⟩) = decide (a = b) := by
  show (a.toArray == b.toArray) = decide (a = b)
  by_cases h : a = b
  · subst h; simp
  · simp [h]

theorem findNow_dir (name : List UInt8) : ∀ (es : List MapEntry) (l : Dir) (i : Nat), es.map (fun e => (e.key, e.val)) = l.map entOf →
    (dirGet l name = none ∧ Instr.findNow .string (strV name) es i = some none) ∨
    ∃ f j, dirGet l name = some f ∧ Instr.findNow .string (strV name) es i = some (some (i + j, ptrV f)) ∧ l[j]? = some (name, f) ∧ ∀ b, dirPut l name b = l.set j (name, b)
  | [], l, i, h => by
    rcases l with _ | ⟨p, l⟩
    · exact .inl ⟨rfl, rfl⟩
    · cases h
  | e :: es, l, i, h => by
    rcases l with _ | ⟨p, l⟩
    · cases h
    · rw [List.map_cons, List.map_cons] at h
      injection h with h1 h2
      have hk : e.key = strV p.1 := congrArg Prod.fst h1
      have hv : e.val = ptrV p.2 := congrArg Prod.snd h1
      unfold Instr.findNow dirGet
      have hs : Instr.sameNow .string (strV name) e.key = some (decide (name = p.1)) := by
        rw [hk]
        show some (_ == _) = _
        rw [str_beq]
      rw [hs]
      by_cases hn : name = p.1
      · rw [decide_eq_true hn, if_pos hn]
        refine .inr ⟨p.2, 0, rfl, by rw [hv]; rfl, by subst hn; rfl, fun b => ?_⟩
        unfold dirPut
        rw [if_pos hn]
        rfl
      · rw [decide_eq_false hn, if_neg hn]
        rcases findNow_dir name es l (i + 1) h2 with ⟨h3, h4⟩ | ⟨f, j, h3, h4, h5, h6⟩
        · exact .inl ⟨h3, h4⟩
        · refine .inr ⟨f, j + 1, h3, ?_, by simpa using h5, fun b => ?_⟩
          · show Instr.findNow .string (strV name) es (i + 1) = _
            rw [h4]
            congr 3
            omega
          · unfold dirPut
            rw [if_neg hn, h6 b]
            rfl

theorem run_checkKey_str {P : Program} {t : TypeId} (ht : P.underlying t = some .string) (e : Bool) (v : Value) (w : World) : (Instr.checkKey e 10000 t v).run P w = .ok () w := by
  unfold Instr.checkKey
  simp [run_underlying ht]

theorem infoPtr : (Tryd.prog.info? 130).map (fun i => (i.zero, i.size, i.bytes)) = some (some (.pointer none), 1, 8) := by kernel_rfl
theorem MapIs.set {w : World} {b : Nat} {l' : Dir} {es es' : Array MapEntry} {clk clk' : Nat} (hb : w.heap[b]? = some (.map es clk)) (he : es'.toList.map (fun e => (e.key, e.val)) = l'.map entOf) (hs : Stamps es' clk') (hk : KeysOnce l') : MapIs (setBlock w b (.map es' clk')) b l' := by
  have hlt := (Array.getElem?_eq_some_iff.1 hb).1
  exact ⟨es', clk', by simp [setBlock, hlt], he, hs, hk⟩
theorem dirGet_none : ∀ {l : Dir} {n : List UInt8}, dirGet l n = none → n ∉ l.map Prod.fst
  | [], n, _ => by simp
  | p :: l, n, h => by
    unfold dirGet at h
    split at h
    · cases h
    · rename_i hn
      rw [List.map_cons, List.mem_cons]
      rintro (e | e)
      · exact hn e
      · exact dirGet_none h e
theorem nodup_snoc {α : Type} {l : List α} {a : α} (h : l.Nodup) (ha : a ∉ l) : (l ++ [a]).Nodup := by
  rw [List.nodup_append]
  refine ⟨h, by simp, fun x hx y hy => ?_⟩
  rw [List.mem_singleton] at hy
  subst hy
  exact fun e => ha (e ▸ hx)

/-- m[name] -/
theorem run_lookup_dir {w : World} {b : Nat} {l : Dir} (h : MapIs w b l) (name : List UInt8) :
    (Instr.lookup 108 (.map (some b)) (strV name) false).run Tryd.prog w = .ok (match dirGet l name with | some f => ptrV f | none => .pointer none) w := by
  obtain ⟨es, clk, hb, he, _⟩ := h
  unfold Instr.lookup
  simp only [Sem.run_bind, run_underlying Tryd.underlying108, Result.andThen_ok, MapKept.run_getObj_map hb, Sem.run_pure, run_checkKey_str Tryd.underlying9, Instr.findKey, run_underlying Tryd.underlying9]
  rcases findNow_dir name es.toList l 0 he with ⟨h3, h4⟩ | ⟨f, j, h3, h4, h5, h6⟩
  · rw [h4, h3]
    simp only [Sem.run_bind, Sem.run_pure, Result.andThen_ok]
    have hz : (zeroValue 130).run Tryd.prog w = .ok (.pointer none) w := by
      obtain ⟨i0, hi, hz0, hz1, hz2⟩ := info_parts infoPtr
      simp [zeroValue, typeInfo, hi, hz0]
    simp [hz]
  · rw [h4, h3]
    simp

theorem dirPut_new : ∀ {l : Dir} {name : List UInt8} {f : Nat}, dirGet l name = none → dirPut l name f = l ++ [(name, f)]
  | [], name, f, _ => rfl
  | p :: l, name, f, h => by
    unfold dirGet at h
    unfold dirPut
    split at h
    · cases h
    · rename_i hn
      rw [if_neg hn, dirPut_new h]
      rfl
/-- m[name] = f -/
theorem run_update_dir {w : World} {b : Nat} {l : Dir} (h : MapIs w b l) (name : List UInt8) (f : Nat) :
    ∃ es clk, (Instr.mapUpdate 108 (.map (some b)) (strV name) (ptrV f)).run Tryd.prog w = .ok () (setBlock w b (.map es clk)) ∧ MapIs (setBlock w b (.map es clk)) b (dirPut l name f) := by
  obtain ⟨es, clk, hb, he, hst, hko⟩ := h
  have hset : ∀ o : Obj, (setObj b o).run Tryd.prog w = .ok () (setBlock w b o) := fun o => by simp [setObj, Sem.run, hb, setBlock]
  rcases findNow_dir name es.toList l 0 he with ⟨h3, h4⟩ | ⟨f0, j, h3, h4, h5, h6⟩
  · refine ⟨es.push ⟨strV name, ptrV f, clk⟩, clk + 1, ?_, ?_⟩
    · unfold Instr.mapUpdate
      simp only [Sem.run_bind, run_underlying Tryd.underlying108, Result.andThen_ok, MapKept.run_getObj_map hb, Sem.run_pure, run_checkKey_str Tryd.underlying9, Instr.findKey, run_underlying Tryd.underlying9, h4, hset]
    · refine MapIs.set hb ?_ ?_ ?_
      · rw [Array.toList_push, List.map_append, he, dirPut_new h3, List.map_append]
        rfl
      · refine ⟨fun x hx => ?_, ?_⟩
        · rw [Array.toList_push, List.mem_append, List.mem_singleton] at hx
          rcases hx with hx | rfl
          · exact Nat.lt_succ_of_lt (hst.1 x hx)
          · exact Nat.lt_succ_self _
        · rw [Array.toList_push, List.map_append]
          refine nodup_snoc hst.2 fun hm => ?_
          obtain ⟨x, hx, e⟩ := List.mem_map.1 hm
          have := hst.1 x hx
          have e : x.born = clk := e
          omega
      · unfold KeysOnce
        rw [dirPut_new h3, List.map_append]
        exact nodup_snoc hko (dirGet_none h3)
  · have hlen : es.size = l.length := by simpa using congrArg List.length he
    have hjl : j < l.length := (List.getElem?_eq_some_iff.1 h5).1
    refine ⟨es.modify (0 + j) fun e => { e with key := strV name, val := ptrV f }, clk, ?_, ?_⟩
    · unfold Instr.mapUpdate
      have hkey : es[0 + j]?.map (·.key) = some (strV name) := by
        have h := congrArg (fun x : List (Value × Value) => x[j]?) he
        simp only [List.getElem?_map, h5, Option.map_some, Array.getElem?_toList] at h
        rw [Nat.zero_add]
        cases hx : es[j]? with
        | none => rw [hx] at h; cases h
        | some e => rw [hx] at h; injection h with h; exact congrArg some (congrArg Prod.fst h)
      simp only [Sem.run_bind, run_underlying Tryd.underlying108, Result.andThen_ok, MapKept.run_getObj_map hb, Sem.run_pure, run_checkKey_str Tryd.underlying9, Instr.findKey, run_underlying Tryd.underlying9, h4, hkey, Option.getD_some]
      have hstay : (Instr.keyThatStays (strV name) (strV name)).run Tryd.prog w = .ok (strV name) w := by
        unfold Instr.keyThatStays
        have : Instr.sameBits 10000 (strV name) (strV name) = true := by
          show (_ == _) = true
          rw [str_beq]; simp
        rw [this]
        rfl
      simp only [hstay, Result.andThen_ok, hset]
    · have hborn : (es.modify (0 + j) fun e => { e with key := strV name, val := ptrV f }).toList.map (·.born) = es.toList.map (·.born) := by
        apply List.ext_getElem?
        intro k
        simp only [List.getElem?_map, Array.getElem?_toList, Array.getElem?_modify]
        by_cases hk : 0 + j = k
        · rw [if_pos hk, Option.map_map]
          rfl
        · rw [if_neg hk]
      refine MapIs.set hb ?_ ?_ ?_
      · rw [h6 f]
        apply List.ext_getElem?
        intro k
        have h := congrArg (fun x : List (Value × Value) => x[k]?) he
        simp only [List.getElem?_map, Array.getElem?_toList] at h
        simp only [List.getElem?_map, Array.getElem?_toList, Array.getElem?_modify, List.getElem?_set, Nat.zero_add]
        by_cases hk : j = k
        · subst hk
          simp only [if_true, if_pos hjl]
          cases hx : es[j]? with
          | none => rw [Array.getElem?_eq_none_iff] at hx; omega
          | some e => rfl
        · simp only [if_neg hk]
          exact h
      · refine ⟨fun x hx => ?_, by rw [hborn]; exact hst.2⟩
        have hm : x.born ∈ (es.modify (0 + j) fun e => { e with key := strV name, val := ptrV f }).toList.map (·.born) := List.mem_map.2 ⟨x, hx, rfl⟩
        rw [hborn] at hm
        obtain ⟨y, hy, e⟩ := List.mem_map.1 hm
        have := hst.1 y hy
        have e : y.born = x.born := e
        omega
      · unfold KeysOnce
        have : (dirPut l name f).map Prod.fst = l.map Prod.fst := by
          rw [h6 f]
          apply List.ext_getElem?
          intro k
          simp only [List.getElem?_map, List.getElem?_set]
          by_cases hk : j = k
          · subst hk
            rw [if_pos rfl, if_pos hjl, h5]
            rfl
          · rw [if_neg hk]
        rw [this]
        exact hko

end Go.Proofs.YtocmnhjgknaocaaDoor
