import Derived.Test.YtocmnhjgknaocaaDoorSum1
import Derived.Test.YtocmnhjgknaocaaDoorAppend
set_option linter.unusedVariables false
set_option linter.unusedSimpArgs false
set_option maxRecDepth 100000
namespace Go.Proofs.YtocmnhjgknaocaaDoor
open Go.RowKit Tb

theorem infoU8 : (Tryd.prog.info? 5).map (fun i => (i.zero, i.size, i.bytes)) = some (some (.int .u8 0), 1, 1) := by kernel_rfl
theorem u8One (x : UInt8) : (Value.int .u8 x.toNat).oneCell' = true := rfl

theorem run_append_zeros (w : World) (ty : TypeId) (n : Nat) (hn : 0 < n) (hl : n ≤ 1099511627776) :
    ∃ cap w', (Builtin.append_ #[67, 3] ty #[.slice none 0 0, .int .i64 n]).run Tryd.prog w = .ok (.slice (some ⟨w.heap.size, 0, none⟩) n cap) w' ∧
      w'.ownsRow w.heap.size 5 1 (.slice (some ⟨w.heap.size, 0, none⟩) 0 cap) 0 [] ∧ Below w.heap.size w w' ∧ n ≤ cap := by
  obtain ⟨i0, hi, hz0, hz1, hz2⟩ := info_parts infoU8
  have hw : IntKind.i64.wrap (n : Int) = n := by rw [IntKind.wrap_i64]; omega
  have hge := grownCap_ge w n 0 5
  have hcm : grownCap w n 0 5 ≤ maxLen := grownCap_le_maxLen w n 0 5 (by unfold maxLen; omega)
  have hu := Tryd.underlying3
  have hn0 : n ≠ 0 := by omega
  have hn1 : ¬ ((n : Int) < 0) := by omega
  have h63' : ¬ (9223372036854775807 < (n : Int)) := by omega
  have h48 : ¬ (281474976710656 < (n : Int)) := by omega
  have h48' : ¬ (281474976710656 < Builtin.nextslicecap n 0) := by rw [nextslicecap_zero hn]; omega
  refine ⟨grownCap w n 0 5, w.drew.alloc (.cells (#[] ++ Builtin.zeroCells #[.int .u8 0] n ++ Builtin.zeroCells #[.int .u8 0] (grownCap w n 0 5 - n)) 5), ?_, ?_, ?_, hge⟩
  · simp [Builtin.append_, run_underlying Tryd.underlying67, run_underlying hu, sizeOf, typeInfo, zeroValue, hi, hz0, hz1, hz2, Builtin.lenOf, asInt, asIntOf, hw, hn0, hn1, h63', h48, h48', Question.forced, run_firstCells_none, newRow, grownCap, Value.cells]
  · exact World.ownsRow_made w.drew _ _ (Nat.le_refl _) hcm (by simp [size_zeroCells]; omega)
  · exact below_alloc (below_drewN (Below.refl _ _) 1) _

theorem app_zeros {ops : Array Oper} {rest : List Oper} {o : Oper} {a : Act} {Q : Exit → Act → World → Prop} {W : World} (hgd : o.guard = none) (s x : Operand)
    (ho : o.op = .call { callee := .builtin .append, args := #[s, x], argTypes := #[67, 3] }) (n : Nat) (hs : a.eval s = .slice none 0 0) (hx : a.eval x = .int .i64 n) (hn : 0 < n) (hl : n ≤ 1099511627776)
    (h : ∀ cap w1, w1.ownsRow W.heap.size 5 1 (.slice (some ⟨W.heap.size, 0, none⟩) 0 cap) 0 [] → Below W.heap.size W w1 → n ≤ cap → wpList Tryd.prog ops Q rest (a.put o.dst (.slice (some ⟨W.heap.size, 0, none⟩) n cap)) w1) :
    wpList Tryd.prog ops Q (o :: rest) a W := by
  obtain ⟨cap, w1, hr, hown, hb, hc⟩ := run_append_zeros W o.type n hn hl
  refine wpList_plain hgd fun K hK => ?_
  unfold Oper.wp execOp
  simp only [ho, resolve, invoke, builtin, Sem.run_bind, Sem.run_pure, Result.andThen_ok, List.map_toArray, List.map_cons, List.map_nil, hs, hx, hr]
  exact hK _ _ (h cap w1 hown hb hc)

set_option maxHeartbeats 400000 in
theorem grow_nil (n : Nat) (hl : n ≤ 1099511627776) (w : World) : Calls Tryd.prog 126 #[.slice none 0 0, .int .i64 n] w (RetB w fun v w' => w'.ownsRow w.heap.size 5 1 v 0 []) := by
  by_cases hn : n = 0
  · subst hn
    go_enter Tryd.func126, Tryd.ntmps126
    go_wp2
    go_ret
    exact ⟨_, rfl, Below.refl _ _, World.ownsRow_nil _ _ _ _⟩
  · go_enter Tryd.func126, Tryd.ntmps126
    go_wp2_with (at_builtin; refine app_zeros rfl (.tmp 20) (.tmp 21) rfl n rfl rfl (by omega) hl ?_)
    intro cap w1 hown hb hc
    go_wp2
    go_ret
    exact ⟨_, rfl, hb, hown⟩

/-- The first k rows, one behind the other; how long they are. -/
def flatTo {α : Type} (xss : List (List α)) (k : Nat) : List α := (xss.take k).flatten
def flenTo {α : Type} (xss : List (List α)) (k : Nat) : Nat := (flatTo xss k).length
theorem flat_snoc {α : Type} (xss : List (List α)) (k : Nat) (h : k < xss.length) : flatTo xss (k + 1) = flatTo xss k ++ xss[k] := by
  unfold flatTo
  rw [List.take_succ_eq_append_getElem h, List.flatten_append]
  simp
theorem flen_snoc {α : Type} (xss : List (List α)) (k : Nat) (h : k < xss.length) : flenTo xss (k + 1) = flenTo xss k + xss[k].length := by
  unfold flenTo
  rw [flat_snoc xss k h, List.length_append]
theorem flat_all {α : Type} (xss : List (List α)) : flatTo xss xss.length = xss.flatten := by unfold flatTo; rw [List.take_of_length_le (Nat.le_refl _)]
theorem flen_le {α : Type} (xss : List (List α)) (k : Nat) : flenTo xss k ≤ flenTo xss xss.length := by
  unfold flenTo
  rw [flat_all]
  conv => rhs; rw [← List.take_append_drop k xss]
  rw [List.flatten_append, List.length_append]
  exact Nat.le_add_right _ _
/-- An element that is a slice, as the walk reads it. -/
theorem Sl.row {α : Type} {k : El α} {hs : 0 < k.sz} {w : World} {ok : Nat → Prop} {v : Value} {xss : List (List α)} (h : Sl (elSl k hs) w ok v xss) :
    ∃ A c, v = .slice A xss.length c ∧ xss.length ≤ c ∧ c ≤ 9223372036854775807 ∧
      (0 < xss.length → ∃ b o, A = some ⟨b, o, none⟩ ∧ ok b ∧ ∀ j (h : j < xss.length), ∃ u, Sl k w ok u xss[j] ∧ w.cell? ⟨b, o + j, none⟩ = some u) := by
  obtain ⟨A, c, hv, h1, h2, h3⟩ := h
  refine ⟨A, c, hv, h1, h2, fun hp => ?_⟩
  obtain ⟨b, o, hA, hb, hc⟩ := h3 hp
  refine ⟨b, o, hA, hb, fun j hj => ?_⟩
  obtain ⟨cs, ⟨u, rfl, hu⟩, hcs⟩ := hc j hj
  have h0 := hcs 0 Nat.one_pos
  exact ⟨u, hu, by simpa [elSl] using h0⟩

set_option maxHeartbeats 800000 in
theorem concat_any (v : Value) (xss : List (List UInt8)) (ok : Nat → Prop) (w : World) (hv : Sl (elSl elU8 Nat.one_pos) w ok v xss) (hlen : flenTo xss xss.length ≤ 1099511627776) :
    Calls Tryd.prog 97 #[v] w (RetB w fun r w' => w'.ownsRow w.heap.size 5 1 r (flatTo xss xss.length).length ((flatTo xss xss.length).map fun b => .int .u8 b.toNat)) := by
  have hv0 := hv
  obtain ⟨A, c, rfl, hc1, hc2, hc⟩ := hv.row
  go_enter Tryd.func97, Tryd.ntmps97
  go_wp2_with fail
  go_loop [3, 11] (fun z i => ∃ k : Nat, k ≤ xss.length ∧ i = .int .i64 k ∧ z = .int .i64 (flenTo xss k)) (fun _ i => xss.length - (intOf i).toNat)
  case atStart => exact ⟨0, by omega, rfl, rfl⟩
  case round =>
    obtain ⟨k, hk, rfl, rfl⟩ := hrel
    have hle := flen_le xss k
    by_cases hlt : k < xss.length
    · obtain ⟨b, o, rfl, hob, hcell⟩ := hc (by omega)
      obtain ⟨u, hu, hcu⟩ := hcell k hlt
      obtain ⟨A', c', rfl, hu1, hu2, _⟩ := hu.one
      have hle1 := flen_le xss (k + 1)
      have HS := Lib.hid (flen_snoc xss k hlt)
      rw [flen_snoc xss k hlt] at hle1
      go_wp2_with fail
      go_round
      case rel => exact ⟨k + 1, by omega, by go_num, int_eq (by rw [HS.out]; omega)⟩
      case measure => simp [intOf]; omega
    · obtain rfl : k = xss.length := by omega
      go_wp2_with (go_at_call 126; refine (grow_nil _ (by omega) _).mono ?_; rintro e w1 ⟨v1, rfl, hb1, hown1⟩)
      go_loopw [6, 27] (fun r i wr => ∃ k : Nat, k ≤ xss.length ∧ i = .int .i64 k ∧ wr.ownsRow w.heap.size 5 1 r (flatTo xss k).length ((flatTo xss k).map fun b => .int .u8 b.toNat) ∧ Below w.heap.size w wr) (fun _ i _ => xss.length - (intOf i).toNat)
      case atStart => exact ⟨0, by omega, rfl, hown1, hb1⟩
      case round =>
        obtain ⟨k, hk, rfl, hown, hbel⟩ := hrel
        clear hown1 hb1 hc hle
        have hle := flen_le xss k
        by_cases hlt : k < xss.length
        · obtain ⟨A2, c2, hve, _, _, hc⟩ := (hv0.below hbel Nat.one_pos).row
          injection hve with hA hl hcc
          subst hA
          subst hcc
          obtain ⟨b, o, rfl, hob, hcell⟩ := hc (by omega)
          obtain ⟨u, hu, hcu⟩ := hcell k hlt
          have hle1 := flen_le xss (k + 1)
          have HS := Lib.hid (flat_snoc xss k hlt)
          rw [flen_snoc xss k hlt] at hle1
          have HL : Hid ((flatTo xss k).length + xss[k].length ≤ 1099511627776) := Nat.le_trans hle1 hlen
          clear hl hcell hc hle1
          have hsz := hbel.size
          go_wp2_with (at_builtin; refine app_row (enc := fun b : UInt8 => Value.int .u8 b.toNat) (fun _ => rfl) w.heap.size rfl (.tmp 31) (.tmp 32) 67 5 (.int .u8 0) 1 rfl Tryd.underlying67 infoU8 rfl _ _ xss[k] u ok rfl rfl hown hu hbel.size (by have := HL.out; unfold maxLen; omega) (by have := HL.out; omega) ?_; intro v2 w2 hown2 hg2 hlie2)
          go_roundw
          case rel => exact ⟨k + 1, by omega, by go_num, by rw [HS.out]; exact hown2, below_own hbel hbel.size hown hg2⟩
          case measure => simp [intOf]; omega
        · obtain rfl : k = xss.length := by omega
          go_wp2_with fail
          go_ret
          exact ⟨_, rfl, hbel, hown⟩

end Go.Proofs.YtocmnhjgknaocaaDoor
