import Derived.Test.YtocmnhjgknaocaaDoorName1
import Derived.ScopeJumps
set_option linter.unusedVariables false
set_option linter.unusedSimpArgs false
set_option maxRecDepth 100000
namespace Go.Proofs.YtocmnhjgknaocaaDoor
open Go.RowKit Tb

/-- What of the world the names' functions lean on. -/
structure Env (w : World) : Prop where
  tab : Lib.TabIs Tryd.prog w "internal/strconv.uint64pow10" .u64 Lib.pow10Tab
  es : ∃ ev, w.cell? ⟨2, 0, none⟩ = some ev ∧ (ev = .nilIface ∨ ∃ te pe, ev = .iface te pe)
  er : ∃ ev, w.cell? ⟨3, 0, none⟩ = some ev ∧ (ev = .nilIface ∨ ∃ te pe, ev = .iface te pe)
theorem Env.below {w w' : World} (h : Env w) (hb : Below w.heap.size w w') : Env w' :=
  ⟨tab_below h.tab hb, h.es.imp fun _ ⟨a, b⟩ => ⟨cell_below hb a, b⟩, h.er.imp fun _ ⟨a, b⟩ => ⟨cell_below hb a, b⟩⟩

/-- The text that Of makes. -/
def nameText (k : UInt8) (n : Nat) : List UInt8 := match nameOf k n with | .ok l => l | .error _ => []
def nameRead (s : List UInt8) : Option (UInt8 × Nat) :=
  if s.length < 3 then none else
  match Lib.parseUintB 64 (s.drop 2) with
  | .ok u => if nameText (s.getD 0 0) u = s then some (s.getD 0 0, u) else none
  | _ => none
def nameReadV : Option (UInt8 × Nat) → Value
  | none => .tuple #[.int .u8 0, .int .u64 0, .bool false]
  | some (k, n) => .tuple #[.int .u8 k.toNat, .int .u64 n, .bool true]

theorem bytesWorld_below (w : World) (e : TypeId) (s : ByteArray) : Below w.heap.size w (Lib.bytesWorld w e s) :=
  ⟨rfl, rfl, rfl, by rw [Lib.bytesWorld_size]; omega, fun j hj => Lib.bytesWorld_at_old w e s j hj⟩
/-- ParseUint(s, 10, 64): what it hands back. -/
def ParsePost (l : List UInt8) (r : Value) : Prop :=
  match Lib.parseUintB 64 l with
  | .ok u => r = .tuple #[.int .u64 u, .nilIface]
  | _ => ∃ n N, r = .tuple #[.int .u64 n, .iface 178 (.pointer (some ⟨N, 0, none⟩))]
theorem parse_any (l : List UInt8) (hl : l.length ≤ 1000000000) (w : World) (he : Env w) : Calls Tryd.prog 73 #[.string ⟨l.toArray⟩, .int .i64 10, .int .i64 64] w (RetB w fun r _ => ParsePost l r) := by
  have hd : (⟨l.toArray⟩ : ByteArray).data.toList = l := by simp
  have hs : (⟨l.toArray⟩ : ByteArray).size = l.length := by simp [ByteArray.size]
  unfold ParsePost
  rcases hp : Lib.parseUintB 64 l with u | _ | _
  · refine (Tryd.strconv_ParseUint_10_at64_ok ⟨l.toArray⟩ (by rw [hs]; omega) u (by rw [hd]; exact hp) w).mono ?_
    rintro e w' ⟨rfl, h⟩
    refine ⟨_, rfl, ?_, rfl⟩
    rcases h with rfl | rfl
    · exact Below.refl _ _
    · exact bytesWorld_below _ _ _
  · obtain ⟨ev, hv, hev⟩ := he.es
    refine (Tryd.strconv_ParseUint_10_at64_other ⟨l.toArray⟩ (by rw [hs]; omega) (fun u => by rw [hd, hp]; intro h; cases h) (by rw [hd, hp]; intro h; cases h) ev w hv hev).mono ?_
    rintro e w' ⟨N, rfl, _, _, hb⟩
    exact ⟨_, rfl, hb, 0, N, rfl⟩
  · obtain ⟨ev, hv, hev⟩ := he.er
    refine (Tryd.strconv_ParseUint_10_at64_range ⟨l.toArray⟩ (by rw [hs]; omega) (by rw [hd]; exact hp) ev w hv hev).mono ?_
    rintro e w' ⟨N, rfl, _, _, hb⟩
    exact ⟨_, rfl, hb, 18446744073709551615, N, rfl⟩

theorem parseM_lt : ∀ (l : List UInt8) (acc u : Nat), acc < 18446744073709551616 → Lib.parseUintM (2 ^ 64 - 1) acc l = .ok u → u < 18446744073709551616
  | [], acc, u, ha, h => by injection h with h; omega
  | c :: r, acc, u, ha, h => by
    unfold Lib.parseUintM at h
    split at h
    · split at h
      · cases h
      · split at h
        · cases h
        · exact parseM_lt r _ u (by omega) h
    · cases h
theorem parse_lt {l : List UInt8} {u : Nat} (h : Lib.parseUintB 64 l = .ok u) : u < 18446744073709551616 := by
  unfold Lib.parseUintB at h
  split at h
  · cases h
  · exact parseM_lt l 0 u (by decide) h

theorem str_drop (s : List UInt8) (k : Nat) : (⟨s.toArray⟩ : ByteArray).extract k s.length = ⟨(s.drop k).toArray⟩ := by
  apply ByteArray.ext
  apply Array.ext'
  simp [ByteArray.data_extract]
  rw [List.take_of_length_le (by simp)]
theorem Exit.jump_ret (l : Nat) (J : Act → World → Prop) (Q : Exit → Act → World → Prop) (a : Act) (w : World) : Exit.jump l J Q .ret a w = Q .ret a w := rfl
theorem Exit.jump_normal (l : Nat) (J : Act → World → Prop) (Q : Exit → Act → World → Prop) (a : Act) (w : World) : Exit.jump l J Q .normal a w = Q .normal a w := rfl
/-- What holds at each jump to the label 'none'. -/
def AtNone (w : World) (a' : Act) (w' : World) : Prop :=
  Below w.heap.size w w' ∧ ∃ (u0 u1 u2 u3 u4 u5 u6 u7 u8 u9 u10 u11 u12 u13 u14 u15 u16 u17 u18 u19 u20 u21 u22 u23 u24 u25 u26 u27 u28 u29 u30 u31 : Value), a' = { tmps := #[u0, u1, u2, u3, u4, u5, u6, u7, u8, u9, u10, u11, u12, u13, u14, u15, u16, u17, u18, u19, u20, u21, u22, u23, u24, u25, u26, u27, u28, u29, u30, u31], defers := [] }

set_option maxHeartbeats 1600000 in
theorem nameRead_any (s : List UInt8) (hl : s.length ≤ 1000000000) (w : World) (he : Env w) :
    Calls Tryd.prog 38 #[.string ⟨s.toArray⟩] w (RetB w fun r _ => r = nameReadV (nameRead s)) := by
  by_cases h3 : s.length < 3
  · have hd : decide ((s.length : Int) < 3) = true := by simp; omega
    have hq : nameRead s = none := by unfold nameRead; rw [if_pos h3]
    rw [hq]
    go_enter Tryd.func38, Tryd.ntmps38
    go_wp2_with fail
    refine wp_scope_jumps 0 (AtNone w) (fun _ _ => 0) rfl ?_ ?_
    · go_wp2_with fail
      refine wp_goto ⟨rfl, Below.refl _ _, ?_⟩
      exact ⟨_, _, _, _, _, _, _, _, _, _, _, _, _, _, _, _, _, _, _, _, _, _, _, _, _, _, _, _, _, _, _, _, rfl⟩
    · rintro a w' ⟨hb, u0, u1, u2, u3, u4, u5, u6, u7, u8, u9, u10, u11, u12, u13, u14, u15, u16, u17, u18, u19, u20, u21, u22, u23, u24, u25, u26, u27, u28, u29, u30, u31, rfl⟩
      go_wp2_with fail
      rw [Exit.jump_ret]
      go_ret3
      exact ⟨_, rfl, hb, rfl⟩
  · have hd : decide ((s.length : Int) < 3) = false := by simp; omega
    have HP := Lib.hid (parse_any (s.drop 2) (by rw [List.length_drop]; omega) w he)
    unfold ParsePost at HP
    rcases hp : Lib.parseUintB 64 (s.drop 2) with u | _ | _
    · rw [hp] at HP
      have hu := parse_lt hp
      obtain ⟨k0, hk0⟩ : ∃ k0, k0 = s.getD 0 0 := ⟨_, rfl⟩
      have HQ : Hid (nameRead s = if nameText k0 u = s then some (k0, u) else none) := by unfold Hid nameRead; rw [if_neg h3, hp, hk0]
      have HOF : Hid (∀ W, Below w.heap.size w W → Calls Tryd.prog 36 #[.int .u8 k0.toNat, .int .u64 u] W (RetB W fun v _ => NamePost (nameOf k0 u) v)) := fun W hW => nameOf_any k0 u hu W (he.below hW).tab
      have hget : ∀ h : 0 < (⟨s.toArray⟩ : ByteArray).size, (⟨s.toArray⟩ : ByteArray)[0] = k0 := fun h => by
        rw [hk0]
        rcases s with _ | ⟨c, t⟩
        · exact absurd h (by simp [ByteArray.size])
        · rfl
      clear hp hk0
      rcases hno : nameOf k0 u with e | l
      · have hq : nameRead s = none := by
          rw [HQ.out, if_neg]
          unfold nameText
          rw [hno]
          rintro rfl
          simp at h3
        rw [hno] at HOF
        rw [hq]
        have hbe : s.isEmpty = false := by
          rcases s with _ | ⟨c, t⟩
          · exact absurd h3 (by simp)
          · rfl
        go_enter Tryd.func38, Tryd.ntmps38
        go_wp2_with fail
        refine wp_scope_jumps 0 (AtNone w) (fun _ _ => 0) rfl ?_ ?_
        · go_wp2_with (first | (go_at_call 73; rw [str_drop]; refine HP.out.mono ?_; rintro e w1 ⟨v1, rfl, hb1, rfl⟩) | (go_at_call 36; refine (HOF.out _ hb1).mono ?_; rintro e' w2 ⟨v2, rfl, hb2, rfl⟩))
          go_step3
          go_wp2_with fail
          rw [Exit.jump_ret]
          go_ret3
          exact ⟨_, rfl, below_step hb1 hb2, rfl⟩
        · rintro a w' ⟨hb, u0, u1, u2, u3, u4, u5, u6, u7, u8, u9, u10, u11, u12, u13, u14, u15, u16, u17, u18, u19, u20, u21, u22, u23, u24, u25, u26, u27, u28, u29, u30, u31, rfl⟩
          go_wp2_with fail
          rw [Exit.jump_ret]
          go_ret3
          exact ⟨_, rfl, hb, rfl⟩
      · rw [hno] at HOF
        by_cases hls : l = s
        · have hq : nameRead s = some (k0, u) := by
            rw [HQ.out, if_pos]
            unfold nameText
            rw [hno]
            exact hls
          rw [hq]
          go_enter Tryd.func38, Tryd.ntmps38
          go_wp2_with fail
          refine wp_scope_jumps 0 (fun _ _ => False) (fun _ _ => 0) rfl ?_ ?_
          · go_wp2_with (first | (go_at_call 73; rw [str_drop]; refine HP.out.mono ?_; rintro e w1 ⟨v1, rfl, hb1, rfl⟩) | (go_at_call 36; refine (HOF.out _ hb1).mono ?_; rintro e' w2 ⟨v2, rfl, hb2, rfl⟩))
            rw [Exit.jump_ret]
            go_ret3
            exact ⟨_, rfl, below_step hb1 hb2, rfl⟩
          · intro a w' h
            exact h.elim
        · have hq : nameRead s = none := by
            rw [HQ.out, if_neg]
            unfold nameText
            rw [hno]
            exact hls
          rw [hq]
          have hbe : (l == s) = false := by simpa using hls
          go_enter Tryd.func38, Tryd.ntmps38
          go_wp2_with fail
          refine wp_scope_jumps 0 (AtNone w) (fun _ _ => 0) rfl ?_ ?_
          · go_wp2_with (first | (go_at_call 73; rw [str_drop]; refine HP.out.mono ?_; rintro e w1 ⟨v1, rfl, hb1, rfl⟩) | (go_at_call 36; refine (HOF.out _ hb1).mono ?_; rintro e' w2 ⟨v2, rfl, hb2, rfl⟩))
            go_step3
            go_wp2_with fail
            rw [Exit.jump_ret]
            go_ret3
            exact ⟨_, rfl, below_step hb1 hb2, rfl⟩
          · rintro a w' ⟨hb, u0, u1, u2, u3, u4, u5, u6, u7, u8, u9, u10, u11, u12, u13, u14, u15, u16, u17, u18, u19, u20, u21, u22, u23, u24, u25, u26, u27, u28, u29, u30, u31, rfl⟩
            go_wp2_with fail
            rw [Exit.jump_ret]
            go_ret3
            exact ⟨_, rfl, hb, rfl⟩
    · rw [hp] at HP
      have hq : nameRead s = none := by unfold nameRead; rw [if_neg h3, hp]
      rw [hq]
      go_enter Tryd.func38, Tryd.ntmps38
      go_wp2_with fail
      refine wp_scope_jumps 0 (AtNone w) (fun _ _ => 0) rfl ?_ ?_
      · go_wp2_with (go_at_call 73; rw [str_drop]; refine HP.out.mono ?_; rintro e w1 ⟨v1, rfl, hb1, n1, N1, rfl⟩)
        refine wp_goto ⟨rfl, hb1, ?_⟩
        exact ⟨_, _, _, _, _, _, _, _, _, _, _, _, _, _, _, _, _, _, _, _, _, _, _, _, _, _, _, _, _, _, _, _, rfl⟩
      · rintro a w' ⟨hb, u0, u1, u2, u3, u4, u5, u6, u7, u8, u9, u10, u11, u12, u13, u14, u15, u16, u17, u18, u19, u20, u21, u22, u23, u24, u25, u26, u27, u28, u29, u30, u31, rfl⟩
        go_wp2_with fail
        rw [Exit.jump_ret]
        go_ret3
        exact ⟨_, rfl, hb, rfl⟩
    · rw [hp] at HP
      have hq : nameRead s = none := by unfold nameRead; rw [if_neg h3, hp]
      rw [hq]
      go_enter Tryd.func38, Tryd.ntmps38
      go_wp2_with fail
      refine wp_scope_jumps 0 (AtNone w) (fun _ _ => 0) rfl ?_ ?_
      · go_wp2_with (go_at_call 73; rw [str_drop]; refine HP.out.mono ?_; rintro e w1 ⟨v1, rfl, hb1, n1, N1, rfl⟩)
        refine wp_goto ⟨rfl, hb1, ?_⟩
        exact ⟨_, _, _, _, _, _, _, _, _, _, _, _, _, _, _, _, _, _, _, _, _, _, _, _, _, _, _, _, _, _, _, _, rfl⟩
      · rintro a w' ⟨hb, u0, u1, u2, u3, u4, u5, u6, u7, u8, u9, u10, u11, u12, u13, u14, u15, u16, u17, u18, u19, u20, u21, u22, u23, u24, u25, u26, u27, u28, u29, u30, u31, rfl⟩
        go_wp2_with fail
        rw [Exit.jump_ret]
        go_ret3
        exact ⟨_, rfl, hb, rfl⟩

end Go.Proofs.YtocmnhjgknaocaaDoor
