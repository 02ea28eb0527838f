import Derived.Test.YtocmnhjgknaocaaDoorSort2
set_option linter.unusedVariables false
set_option linter.unusedSimpArgs false
set_option maxRecDepth 100000
namespace Go.Proofs.YtocmnhjgknaocaaDoor
open Go.RowKit Tb

/-- The number of a name of kind k. -/
def numOfKind (k : UInt8) (s : List UInt8) : Option Nat := match nameRead s with | some (k', n) => if k' = k then some n else none | none => none
def onlyNums (l : List (List UInt8)) (k : UInt8) : List Nat := l.filterMap (numOfKind k)
def onlySorted (l : List (List UInt8)) (k : UInt8) : List Nat := (Sort.insertionSort ltN (onlyNums l k).toArray 0 (onlyNums l k).length).toList

theorem own_holds {w : World} {base g cap n : Nat} {xs : List Nat} (h : OwnU w base (.slice (some ⟨g, 0, none⟩) n cap) xs) : Sort.Holds encU w g 0 xs.toArray := by
  intro j hj
  have hj' : j < xs.length := by simpa using hj
  have hadd : (⟨g, 0, none⟩ : Addr).add j = ⟨g, 0 + j, none⟩ := by unfold Addr.add; split <;> simp_all
  constructor
  · have hc := World.ownsRow.cells h (g := g) rfl j (encU xs[j]) (by simp [hj'])
    rw [hadd] at hc
    rw [hc, getElem!_pos _ j hj]
    simp
  · rcases h.2 with ⟨he, _⟩ | ⟨g', cap', cur, he, _, hh, _⟩
    · cases he
    · injection he with he _ _
      injection he with he
      injection he with he _ _
      subst he
      simp [World.frozen?, hh]

theorem ltN_swo : Sort.SWO ltN where
  irrefl := fun x => by simp [ltN]
  trans := fun x y z h1 h2 => by simp [ltN] at *; omega
  ntrans := fun x y z h1 h2 => by simp [ltN] at *; omega
theorem insertion_ok (d : Array Nat) (n : Nat) (h : n = d.size) : Sort.PermIn 0 n d (Sort.insertionSort ltN d 0 n) ∧ Sort.SortedIn ltN 0 n (Sort.insertionSort ltN d 0 n) :=
  Sort.insertionSort_holds ltN_swo d 0 n (Nat.zero_le _) (by omega)

set_option maxHeartbeats 1600000 in
theorem only_small_any (v : Value) (l : List (List UInt8)) (k : UInt8) (ok : Nat → Prop) (w : World) (hv : Sl elName w ok v l) (he : Env w) (hs : ∀ s ∈ l, s.length ≤ 1000000000) (hl : l.length ≤ 1000000000)
    (h0 : 0 < (onlyNums l k).length) (h12 : (onlyNums l k).length ≤ 12) :
    Calls Tryd.prog 41 #[v, .int .u8 k.toNat] w (RetB w fun r w' => Sl elU64 w' (fun b => w.heap.size ≤ b) r (onlySorted l k)) := by
  obtain ⟨A, c, rfl, hc1, hc2, _⟩ := hv.one
  have HV := Lib.hid hv
  have HS := Lib.hid hs
  clear hv hs
  go_enter Tryd.func41, Tryd.ntmps41
  go_wp2_with fail
  go_loopw [5, 13] (fun r i wr => ∃ j : Nat, j ≤ l.length ∧ i = .int .i64 j ∧ OwnU wr w.heap.size r (onlyNums (l.take j) k) ∧ Below w.heap.size w wr) (fun _ i _ => l.length - (intOf i).toNat)
  case atStart => exact ⟨0, by omega, rfl, World.ownsRow_nil _ _ _ _, Below.refl _ _⟩
  case round =>
    obtain ⟨j, hj, rfl, hown, hbel⟩ := hrel
    by_cases hlt : j < l.length
    · obtain ⟨A2, c2, hve, _, _, hc⟩ := (HV.out.below hbel Nat.one_pos).one
      injection hve with hA hln hcc
      subst hA
      subst hcc
      clear hln
      obtain ⟨b, o, rfl, hob, hcell⟩ := hc (by omega)
      have hck0 := hcell j hlt
      have hsl := HS.out l[j] (List.getElem_mem _)
      have hnext : onlyNums (l.take (j + 1)) k = onlyNums (l.take j) k ++ (match numOfKind k l[j] with | some n => [n] | none => []) := by
        unfold onlyNums
        rw [List.take_succ_eq_append_getElem hlt, List.filterMap_append]
        congr 1
        rcases hx : numOfKind k l[j] with _ | n <;> simp [List.filterMap, hx]
      have hck : wr.cell? ⟨b, o + j, none⟩ = some (.string ⟨l[j].toArray⟩) := hck0
      have HN := Lib.hid hnext
      clear hc hcell hnext hck0
      generalize l[j] = s at hck hsl HN
      have HR := Lib.hid (nameRead_any s hsl wr (he.below hbel))
      rcases hq : nameRead s with _ | ⟨k', n⟩
      · have HN2 : Hid (onlyNums (l.take (j + 1)) k = onlyNums (l.take j) k) := by unfold Hid; rw [HN.out]; simp [numOfKind, hq]
        go_wp2_with (go_at_call 38; refine HR.out.mono ?_; rw [hq]; simp only [nameReadV]; rintro e w1 ⟨v1, rfl, hb1, rfl⟩)
        go_roundw
        case rel => exact ⟨j + 1, by omega, by go_num, by rw [HN2.out]; exact own_below hown hb1, below_step hbel hb1⟩
        case measure => simp [intOf]; omega
      · by_cases hkk : k' = k
        · have HN2 : Hid (onlyNums (l.take (j + 1)) k = onlyNums (l.take j) k ++ [n]) := by unfold Hid; rw [HN.out]; simp [numOfKind, hq, hkk]
          have hkb : ((k'.toNat : Int) == (k.toNat : Int)) = true := by rw [hkk]; simp
          have hle : (onlyNums (l.take j) k).length ≤ 1000000000 := Nat.le_trans (List.length_filterMap_le _ _) (by rw [List.length_take]; omega)
          have HKK := Lib.hid hkk
          clear hkk
          go_wp2_with (first
            | (go_at_call 38; refine HR.out.mono ?_; rw [hq]; simp only [nameReadV]; rintro e w1 ⟨v1, rfl, hb1, rfl⟩; have hown1 := own_below hown hb1; have hbel1 := below_step hbel hb1)
            | (at_builtin; refine app_cells w.heap.size rfl (.tmp 29) (.tmp 31) 24 22 (.int .u64 0) 1 8 rfl Tryd.underlying24 infoU64 rfl (by decide) _ (onlyNums (l.take j) k).length ((onlyNums (l.take j) k).map fun n : Nat => Value.int .u64 n) [.int .u64 n] rfl (by show Value.slice _ _ _ = Value.slice _ _ _; simp) (by simp [Value.oneCell']) rfl hown1 hbel1.size (by unfold maxLen; omega) (by omega) ?_; intro v2 w2 hown2 hg2 hlie2 hsh2))
          go_roundw
          case rel =>
            refine ⟨j + 1, by omega, by go_num, ?_, below_own hbel1 hbel1.size hown1 hg2⟩
            rw [HN2.out]
            unfold OwnU
            rw [List.length_append, List.map_append]
            exact hown2
          case measure => simp [intOf]; omega
        · have HN2 : Hid (onlyNums (l.take (j + 1)) k = onlyNums (l.take j) k) := by unfold Hid; rw [HN.out]; simp [numOfKind, hq, hkk]
          have hkb : ((k'.toNat : Int) == (k.toNat : Int)) = false := by
            rw [beq_eq_false_iff_ne]; intro e; exact hkk (UInt8.toNat_inj.1 (by omega))
          have HKK := Lib.hid hkk
          clear hkk
          go_wp2_with (go_at_call 38; refine HR.out.mono ?_; rw [hq]; simp only [nameReadV]; rintro e w1 ⟨v1, rfl, hb1, rfl⟩)
          go_roundw
          case rel => exact ⟨j + 1, by omega, by go_num, by rw [HN2.out]; exact own_below hown hb1, below_step hbel hb1⟩
          case measure => simp [intOf]; omega
    · rw [List.take_of_length_le (by omega)] at hown
      rcases hown.2 with ⟨_, h00⟩ | ⟨g, cap, cur, hve, hgb, hgh, _⟩
      · omega
      · have hown0 := hown
        subst hve
        have hH := own_holds hown0
        have HSO := Lib.hid (sort_small_any g 0 cap (onlyNums l k).toArray _ hH (by simpa using h12))
        have hsz : (onlyNums l k).toArray.size = (onlyNums l k).length := by simp
        rw [hsz] at HSO
        have HB := Lib.hid hbel
        clear hown hown0 hH hbel hgh
        obtain rfl : j = l.length := by omega
        go_wp2_with (go_at_call 74; refine HSO.out.mono ?_; rintro e w1 ⟨rfl, h1, h2, h3⟩; have H1 := Lib.hid h1; have H2 := Lib.hid h2; have H3 := Lib.hid h3; clear h1 h2 h3)
        go_ret
        have hS := insertion_ok (onlyNums l k).toArray (onlyNums l k).length (by simp)
        have hlen : (onlySorted l k).length = (onlyNums l k).length := by unfold onlySorted; rw [Array.length_toList, hS.1.1]; simp
        refine ⟨_, rfl, HB.out.trans (H2.out.below HB.out.size fun b hb e => by omega), Sl.mk1 hlen (by omega) (by simp only [maxLen] at *; omega) fun hp => ⟨g, 0, rfl, hgb, fun j hj => ?_⟩⟩
        have hj2 : j < (Sort.insertionSort ltN (onlyNums l k).toArray 0 (onlyNums l k).length).size := by rw [hS.1.1]; simp; omega
        rw [(H1.out j hj2).1, getElem!_pos _ j hj2]
        rfl

end Go.Proofs.YtocmnhjgknaocaaDoor
