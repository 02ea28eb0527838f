import Derived.Test.YtocmnhjgknaocaaDoorDisk6
set_option linter.unusedVariables false
set_option linter.unusedSimpArgs false
set_option maxRecDepth 100000
namespace Go.Proofs.YtocmnhjgknaocaaDoor
open Go.RowKit Tb
open Go.ChangeMaps (setBlock)

def PDisk.createErr (s : PDisk) (n : List UInt8) : Int := if nameOk n = false then 1 else if (dirGet s.now n).isSome then 6 else if 60 ≤ s.now.length then 4 else 0
def PDisk.create (s : PDisk) (n : List UInt8) (f : Nat) : Int × PDisk :=
  if (s.can (s.createErr n)).1 = 0 then (0, { ((s.can (s.createErr n)).2.add f) with steps := (s.can (s.createErr n)).2.steps ++ [dirPut (s.can (s.createErr n)).2.now n f] })
  else s.can (s.createErr n)
theorem can_ne {s : PDisk} {e : Int} (h : e ≠ 0) : (s.can e).1 ≠ 0 := by
  unfold PDisk.can
  split
  · simp
  · first | exact h | (rw [if_pos h]; exact h)
theorem run_len_dir {w : World} {b : Nat} {l : Dir} (h : MapIs w b l) (ty : TypeId) : (Builtin.len_ #[108] ty #[.map (some b)]).run Tryd.prog w = .ok (.int .i64 l.length) w := by
  obtain ⟨es, clk, hb, he, _⟩ := h
  have hs : es.size = l.length := by simpa using congrArg List.length he
  simp [Builtin.len_, run_underlying Tryd.underlying108, MapKept.run_getObj_map hb, hs, go_sem]

theorem DiskAt.mapLast {F : Nat → Prop} {w : World} {D : Nat} {s : PDisk} {ts : List Dir} {d : Dir} {m mS : Nat} {mT : List Nat} {vT : Value} {bv : Nat → Value} (h : DiskAt F w D { s with steps := ts ++ [d] } mS (mT ++ [m]) vT bv) : MapIs w m d := by
  have hlen : mT.length = ts.length := by have := h.lenT; simpa using this
  have := h.mapT mT.length (by simp) (by simp [hlen])
  simpa [hlen] using this
theorem setBlock_ne {w : World} {b b' : Nat} {o : Obj} (h : b' ≠ b) : (setBlock w b o).heap[b']? = w.heap[b']? := by
  unfold setBlock
  simp only [Array.getElem?_setIfInBounds]
  rw [if_neg (fun e => h e.symm)]
theorem dirPut_mem : ∀ {l : Dir} {n : List UInt8} {f : Nat} {p : List UInt8 × Nat}, p ∈ dirPut l n f → p ∈ l ∨ p.2 = f
  | [], n, f, p, h => by
    rw [dirPut, List.mem_singleton] at h
    subst h
    exact .inr rfl
  | q :: l, n, f, p, h => by
    unfold dirPut at h
    split at h
    · rcases List.mem_cons.1 h with rfl | h
      · exact .inr rfl
      · exact .inl (List.mem_cons_of_mem _ h)
    · rcases List.mem_cons.1 h with rfl | h
      · exact .inl List.mem_cons_self
      · exact (dirPut_mem h).imp (List.mem_cons_of_mem _) id

def CreatePost (F : Nat → Prop) (w : World) (D : Nat) (s : PDisk) (n : List UInt8) (mS : Nat) (e : Ending) (w' : World) : Prop :=
  ∃ f mT' vT' bv', w.heap.size ≤ f ∧ e = .returned (.int .i64 (s.create n f).1) ∧ DiskAt (fun b => F b ∨ w.heap.size ≤ b) w' D (s.create n f).2 mS mT' vT' bv' ∧ Kept F w w'

theorem create_err {F : Nat → Prop} {w w1 w' : World} {D : Nat} {s : PDisk} {n : List UInt8} {mS : Nat} {mT : List Nat} {vT : Value} {bv : Nat → Value} {e : Ending} (hb1 : Below w.heap.size w w1) (hF : F D)
    (hne : (s.can (s.createErr n)).1 ≠ 0) (hc : CanPost F w1 D (s.can (s.createErr n)) mS mT vT bv e w') : CreatePost F w D s n mS e w' := by
  obtain ⟨he, hD, hk, hsz⟩ := hc
  refine ⟨w.heap.size, mT, vT, bv, Nat.le_refl _, ?_, ?_, ?_⟩
  · unfold PDisk.create; rw [if_neg hne]; exact he
  · unfold PDisk.create; rw [if_neg hne]; exact hD.keepF (fun _ _ _ => rfl) fun b hb => .inl hb
  · exact (Kept.of_below hb1).trans hk fun i _ e => e ▸ hF

set_option maxHeartbeats 1600000 in
theorem create_any {F : Nat → Prop} {w : World} {D : Nat} {s : PDisk} {mS : Nat} {mT : List Nat} {vT : Value} {bv : Nat → Value} (h : DiskAt F w D s mS mT vT bv) (n : List UInt8) (hl : n.length ≤ 1000000000) (hlong : s.steps.length < 1000000000) (hmany : s.ids.length < 1000000000) :
    Calls Tryd.prog 43 #[ptrV D, strV n] w (CreatePost F w D s n mS) := by
  have HN := Lib.hid (now_any h)
  have HH := Lib.hid h
  have HNM := Lib.hid (named_any n hl w)
  clear h
  unfold ptrV strV at *
  rcases hn : nameOk n with _ | _
  · have he : s.createErr n = 1 := by unfold PDisk.createErr; rw [if_pos hn]
    have hne : (s.can (s.createErr n)).1 ≠ 0 := by rw [he]; exact can_ne (by decide)
    have hbe : ((s.can 1).1 == 0) = false := by rw [he] at hne; simpa using hne
    have HNE := Lib.hid hne
    have HE := Lib.hid he
    rw [hn] at HNM
    clear hne he
    go_enter Tryd.func43, Tryd.ntmps43
    go_wp2_with (first
      | (go_at_call 67; refine HN.out.mono ?_; rintro e w1 ⟨rfl, rfl⟩)
      | (go_at_call 75; refine HNM.out.mono ?_; rintro e w1 ⟨v1, rfl, hb1, rfl⟩)
      | (go_at_call 68; refine (can_any (HH.out.below hb1) 1).mono ?_; rintro e w2 hc; have HC := Lib.hid hc; obtain ⟨rfl, _, _, _⟩ := hc))
    go_ret
    exact create_err hb1 HH.out.fD HNE.out (by rw [HE.out]; exact HC.out)
  · rw [hn] at HNM
    rcases hg : dirGet s.now n with _ | f0
    · by_cases h60 : 60 ≤ s.now.length
      · have hd60 : decide ((60 : Int) ≤ (s.now.length : Int)) = true := by simp; omega
        have he : s.createErr n = 4 := by unfold PDisk.createErr; rw [if_neg (by rw [hn]; simp), hg, if_neg (by simp), if_pos h60]
        have hne : (s.can (s.createErr n)).1 ≠ 0 := by rw [he]; exact can_ne (by decide)
        have hbe : ((s.can 4).1 == 0) = false := by rw [he] at hne; simpa using hne
        have HNE := Lib.hid hne
        have HE := Lib.hid he
        clear hne he
        go_enter Tryd.func43, Tryd.ntmps43
        go_wp2_with (first
          | (go_at_call 67; refine HN.out.mono ?_; rintro e w1 ⟨rfl, rfl⟩)
          | (go_at_call 75; refine HNM.out.mono ?_; rintro e w1 ⟨v1, rfl, hb1, rfl⟩; have hlk := run_lookup_dir (HH.out.below hb1).mapNow n; rw [hg] at hlk; simp only [strV, ptrV] at hlk; have hln := run_len_dir (HH.out.below hb1).mapNow)
          | (go_at_call 68; refine (can_any (HH.out.below hb1) 4).mono ?_; rintro e w2 hc; have HC := Lib.hid hc; obtain ⟨rfl, _, _, _⟩ := hc))
        go_ret
        exact create_err hb1 HH.out.fD HNE.out (by rw [HE.out]; exact HC.out)

      · have hd60 : decide ((60 : Int) ≤ (s.now.length : Int)) = false := by simp; omega
        have he : s.createErr n = 0 := by unfold PDisk.createErr; rw [if_neg (by rw [hn]; simp), hg, if_neg (by simp), if_neg h60]
        rcases hq : s.can 0 with ⟨e1, s1⟩
        by_cases he1 : e1 = 0
        · subst he1
          have hbe : ((0 : Int) == 0) = true := rfl
          have HE := Lib.hid he
          have HQ := Lib.hid hq
          have hs1 : s1.steps = s.steps ∧ s1.now = s.now ∧ s1.ids = s.ids := by
            unfold PDisk.can at hq
            split at hq
            · cases hq
            · first | rw [if_neg (by simp)] at hq | skip
              split at hq
              · cases hq
              · split at hq
                · injection hq with _ hq; subst hq; exact ⟨rfl, rfl, rfl⟩
                · injection hq with _ hq; subst hq; exact ⟨rfl, rfl, rfl⟩
          have HS1 := Lib.hid hs1
          clear he hq hs1
          go_enter Tryd.func43, Tryd.ntmps43
          go_wp2_with (first
            | (go_at_call 67; refine HN.out.mono ?_; rintro e w1 ⟨rfl, rfl⟩)
            | (go_at_call 75; refine HNM.out.mono ?_; rintro e w1 ⟨v1, rfl, hb1, rfl⟩; have hlk := run_lookup_dir (HH.out.below hb1).mapNow n; rw [hg] at hlk; simp only [strV, ptrV] at hlk; have hln := run_len_dir (HH.out.below hb1).mapNow)
            | (go_at_call 68; refine (can_any (HH.out.below hb1) 0).mono ?_; rw [HQ.out]; rintro e w2 ⟨rfl, hD2, hk2, hz2⟩; have HD2 := Lib.hid hD2; have HK2 := Lib.hid hk2; have HZ2 := Lib.hid hz2; clear hD2 hk2 hz2)
            | (go_at_call 76; refine (change_any HD2.out (by rw [HS1.out.1]; exact hlong)).mono ?_; rintro e w3 ⟨vT3, rfl, hD3, hk3, hz3⟩; have HD3 := Lib.hid hD3; have HK3 := Lib.hid hk3; have hM3 : MapIs (w3.alloc (.cells #[.slice none 0 0, .int .i64 0] 129)) w2.heap.size s1.now := hD3.mapLast.keep (Below.heap_alloc _ _ _ hz3); obtain ⟨es4, clk4, hup, hMup⟩ := run_update_dir hM3 n w3.heap.size; simp only [strV, ptrV] at hup; have HMU := Lib.hid hMup; clear hD3 hk3 hM3 hMup))
          go_ret
          have hz2 := HZ2.out
          have hD3 := HD3.out
          have hD2 := HD2.out
          have hw1 := hb1.size
          have hf : w3.heap.size ∉ s1.ids := fun hm => by have := (hD3.fileI _ hm).lt; omega
          have hD4 := (hD3.below (below_alloc (Below.refl _ _) (.cells #[.slice none 0 0, .int .i64 0] 129))).add (f := w3.heap.size) hf (by rw [HS1.out.2.2]; exact hmany) (.inr (by omega)) (Blk.new w3 [.slice none 0 0, .int .i64 0] _)
          have hD5 := DiskAt.turn (s := s1.add w3.heap.size) (ts := s1.steps) (d := s1.now) (d' := dirPut s1.now n w3.heap.size) (w' := setBlock (w3.alloc (.cells #[.slice none 0 0, .int .i64 0] 129)) w2.heap.size (.map es4 clk4)) hD4
            (fun e => by have := hD2.mapS.lt; omega) (fun hm => by
              obtain ⟨j, hj, e⟩ := List.mem_iff_getElem.1 hm
              have := (hD2.mapT j hj (by rw [← hD2.lenT]; exact hj)).lt
              omega)
            (fun b hb _ => setBlock_ne hb) HMU.out (fun p hp => by
              show p.2 ∈ s1.ids ++ [w3.heap.size]
              rcases dirPut_mem hp with hp | hp
              · exact List.mem_append_left _ (hD2.inNow p hp)
              · rw [hp]; simp)
          have hcr : s.create n w3.heap.size = (0, { (s1.add w3.heap.size) with steps := s1.steps ++ [dirPut s1.now n w3.heap.size] }) := by
            unfold PDisk.create
            rw [HE.out, HQ.out]
            rfl
          refine ⟨w3.heap.size, mT ++ [w2.heap.size], vT3, (fun i => if i = w3.heap.size then .slice none 0 0 else bv i), by omega, ?_, ?_, ?_⟩
          · rw [hcr]; rfl
          · rw [hcr]
            exact hD5.keepF (fun _ _ _ => rfl) fun b hb => by
              rcases hb with hb | hb
              · exact .inl hb
              · exact .inr (by omega)
          · have hk1 : Kept F w w2 := (Kept.of_below hb1).trans HK2.out fun i _ e => e ▸ HH.out.fD
            have hk2 : Kept F w w3 := hk1.trans HK3.out fun i _ hi => hi
            refine hk2.trans (c := setBlock (w3.alloc (.cells #[.slice none 0 0, .int .i64 0] 129)) w2.heap.size (.map es4 clk4)) (G := fun b => b = w2.heap.size) ⟨rfl, rfl, rfl, by simp [setBlock], fun k hk hne => (setBlock_ne hne).trans (Below.heap_alloc _ _ _ hk)⟩ fun i hi e => by omega
        · have hne : (s.can (s.createErr n)).1 ≠ 0 := by rw [he, hq]; exact he1
          have hbe : (e1 == 0) = false := by simpa using he1
          have HNE := Lib.hid hne
          have HE := Lib.hid he
          have HQ := Lib.hid hq
          clear hne he hq
          go_enter Tryd.func43, Tryd.ntmps43
          go_wp2_with (first
            | (go_at_call 67; refine HN.out.mono ?_; rintro e w1 ⟨rfl, rfl⟩)
            | (go_at_call 75; refine HNM.out.mono ?_; rintro e w1 ⟨v1, rfl, hb1, rfl⟩; have hlk := run_lookup_dir (HH.out.below hb1).mapNow n; rw [hg] at hlk; simp only [strV, ptrV] at hlk; have hln := run_len_dir (HH.out.below hb1).mapNow)
            | (go_at_call 68; refine (can_any (HH.out.below hb1) 0).mono ?_; rw [HQ.out]; rintro e w2 hc; have HC := Lib.hid hc; obtain ⟨rfl, _, _, _⟩ := hc))
          go_ret
          exact create_err hb1 HH.out.fD HNE.out (by rw [HE.out, HQ.out]; exact HC.out)
    · have he : s.createErr n = 6 := by unfold PDisk.createErr; rw [if_neg (by rw [hn]; simp), hg, if_pos (by rfl)]
      have hne : (s.can (s.createErr n)).1 ≠ 0 := by rw [he]; exact can_ne (by decide)
      have hbe : ((s.can 6).1 == 0) = false := by rw [he] at hne; simpa using hne
      have HNE := Lib.hid hne
      have HE := Lib.hid he
      clear hne he
      go_enter Tryd.func43, Tryd.ntmps43
      go_wp2_with (first
        | (go_at_call 67; refine HN.out.mono ?_; rintro e w1 ⟨rfl, rfl⟩)
        | (go_at_call 75; refine HNM.out.mono ?_; rintro e w1 ⟨v1, rfl, hb1, rfl⟩; have hlk := run_lookup_dir (HH.out.below hb1).mapNow n; rw [hg] at hlk; simp only [strV, ptrV] at hlk; have hln := run_len_dir (HH.out.below hb1).mapNow)
        | (go_at_call 68; refine (can_any (HH.out.below hb1) 6).mono ?_; rintro e w2 hc; have HC := Lib.hid hc; obtain ⟨rfl, _, _, _⟩ := hc))
      go_ret
      exact create_err hb1 HH.out.fD HNE.out (by rw [HE.out]; exact HC.out)

end Go.Proofs.YtocmnhjgknaocaaDoor
