import Derived.Test.YtocmnhjgknaocaaDoorRec3
import Derived.Laws.IdiomStrings
import Derived.Lib.BufferRead
set_option linter.unusedVariables false
set_option linter.unusedSimpArgs false
set_option maxRecDepth 100000
namespace Go.Proofs.YtocmnhjgknaocaaDoor
open Go.RowKit Tb

theorem vgetFrom_used : ∀ (l : List UInt8) (i n m u : Nat), vgetFrom i n l = .ok (m, u) → i < u ∧ u ≤ i + l.length
  | [], i, n, m, u, h => by cases h
  | c :: l, i, n, m, u, h => by
    rw [vgetFrom_cons] at h
    split at h
    · cases h
    · split at h
      · have := vgetFrom_used l _ _ _ _ h
        simp; omega
      · split at h
        · cases h
        · injection h with h; injection h with _ h; simp; omega
theorem vget_used {b : List UInt8} {m u : Nat} (h : vget b = .ok (m, u)) : 0 < u ∧ u ≤ b.length := by
  have := vgetFrom_used b _ _ _ _ h
  omega
theorem vgetFrom_err : ∀ (l : List UInt8) (i n : Nat) (e : Int), vgetFrom i n l = .error e → e = 2 ∨ e = 3
  | [], i, n, e, h => by injection h with h; omega
  | c :: l, i, n, e, h => by
    rw [vgetFrom_cons] at h
    split at h
    · injection h with h; omega
    · split at h
      · exact vgetFrom_err l _ _ _ h
      · split at h
        · injection h with h; omega
        · cases h
theorem infoU64 : (Tryd.prog.info? 22).map (fun i => (i.zero, i.size, i.bytes)) = some (some (.int .u64 0), 1, 8) := by kernel_rfl
def preNums (l : List Nat) : Except Int (List Nat × List UInt8) → Except Int (List Nat × List UInt8)
  | .error e => .error e
  | .ok (m, rest) => .ok (l ++ m, rest)
theorem preNums_step {l : List Nat} {k n u : Nat} {b : List UInt8} (h : vget b = .ok (n, u)) : preNums l (takeNums (k + 1) b) = preNums (l ++ [n]) (takeNums k (b.drop u)) := by
  simp only [takeNums, h]
  rcases takeNums k (b.drop u) with e | ⟨m, r⟩ <;> simp [preNums]
theorem preNums_err {l : List Nat} {k : Nat} {e : Int} {b : List UInt8} (h : vget b = .error e) : preNums l (takeNums (k + 1) b) = .error e := by
  simp only [takeNums, h]
  rfl
theorem preNums_nil (x : Except Int (List Nat × List UInt8)) : preNums [] x = x := by
  rcases x with e | ⟨m, r⟩ <;> simp [preNums]

def OwnU (w : World) (base : Nat) (v : Value) (xs : List Nat) : Prop := w.ownsRow base 22 1 v xs.length (xs.map fun n : Nat => Value.int .u64 n)
theorem OwnU.less {w : World} {base b : Nat} {v : Value} {xs : List Nat} (h : OwnU w b v xs) (hle : base ≤ b) : OwnU w base v xs := by
  refine ⟨h.1, ?_⟩
  rcases h.2 with h2 | ⟨g, cap, cur, hv, hg, r⟩
  · exact .inl h2
  · exact .inr ⟨g, cap, cur, hv, Nat.le_trans hle hg, r⟩
theorem OwnU.set {w : World} {base : Nat} {v : Value} {xs : List Nat} (h : OwnU w base v xs) {g : Nat} (hg : g < base) (i : Nat) (u : Value) : OwnU (w.setCell ⟨g, i, none⟩ u) base v xs := own_set h hg i u
theorem OwnU.sl {w : World} {base : Nat} {v : Value} {xs : List Nat} (h : OwnU w base v xs) : Sl elU64 w (fun b => base ≤ b) v xs := (own_sl h).1
def RecPost (base : Nat) (o : Except Int Rec) (r : Value) (w' : World) : Prop :=
  match o with
  | .error e => r = .tuple #[.agg #[.int .i64 0, .slice none 0 0, .string ⟨#[]⟩], .int .i64 e]
  | .ok x => ∃ u, r = .tuple #[.agg #[.int .i64 x.kind, u, strV x.text], .int .i64 0] ∧ OwnU w' base u x.n

theorem conv_str {w : World} {ok : Nat → Prop} {v : Value} {l : List UInt8} (h : Sl elU8 w ok v l) : (convert 67 9 v).run Tryd.prog w = .ok (.string ⟨l.toArray⟩) w := by
  obtain ⟨A, c, rfl, _, _, hc⟩ := h.one
  rcases A with _ | a
  · rcases l with _ | ⟨x, l⟩
    · exact Lib.run_convert_nil_bytes w _ _ _ c Tryd.underlying67 Tryd.underlying5 Tryd.underlying9
    · obtain ⟨b, o, hA, _⟩ := hc (by simp)
      cases hA
  · refine run_convert_bytes_back w _ _ _ a c l Tryd.underlying67 Tryd.underlying5 Tryd.underlying9 fun j hj => ?_
    obtain ⟨b, o, hA, _, hcell⟩ := hc (by omega)
    injection hA with hA
    subst hA
    have hadd : (⟨b, o, none⟩ : Addr).add j = ⟨b, o + j, none⟩ := by unfold Addr.add; split <;> simp_all
    rw [hadd]
    exact hcell j hj
theorem Sl.low {α : Type} {enc : α → Value} {w : World} {ok : Nat → Prop} {b o n c : Nat} {xs : List α} (h : Sl (elOne enc) w ok (.slice (some ⟨b, o, none⟩) n c) xs) (m : Nat) (hm : m ≤ xs.length) :
    Sl (elOne enc) w ok (.slice (if c = m then some ⟨b, o, none⟩ else some ⟨b, o + m, none⟩) (n - m) (c - m)) (xs.drop m) := by
  by_cases hc : c = m
  · rw [if_pos hc]
    refine h.dropA hm fun hp => ?_
    obtain ⟨A', c', hv, h1, h2, h3⟩ := h.one
    injection hv with _ hn hcc
    omega
  · rw [if_neg hc]
    exact h.drop m hm
theorem below_weak {A B : Nat} {w w1 : World} (h : Below B w w1) (hle : A ≤ B) : Below A w w1 := ⟨h.os, h.tape, h.output, h.size, fun k hk => h.block k (Nat.lt_of_lt_of_le hk hle)⟩
theorem grown_of_drew {w w1 : World} {r : Option Nat} (h : w.drew.grownBy w1 r) : w.grownBy w1 r := ⟨h.os, h.tape, h.output, h.size, h.block⟩
theorem size_al (w : World) (o : Obj) : (w.alloc o).heap.size = w.heap.size + 1 := by simp
theorem blk_al2 (w : World) (o : Obj) (cs : List Value) (t : TypeId) : Blk ((w.alloc o).alloc (.cells cs.toArray t)) (w.heap.size + 1) cs t := by
  have h := Blk.new (w.alloc o) cs t
  rwa [size_al] at h
theorem blk_al3 (w : World) (o o2 : Obj) (cs : List Value) (t : TypeId) : Blk (((w.alloc o).alloc o2).alloc (.cells cs.toArray t)) (w.heap.size + 1 + 1) cs t := by
  have h := Blk.new ((w.alloc o).alloc o2) cs t
  rwa [size_al, size_al] at h

set_option maxHeartbeats 1600000 in
theorem recordRead_any (x : Frm) (u : Value) (ok : Nat → Prop) (w : World) (hv : Sl elU8 w ok u x.body) :
    Calls Tryd.prog 81 #[.agg #[.int .u8 x.kind.toNat, u]] w (RetB w (RecPost w.heap.size (recRead x))) := by
  obtain ⟨k8, body⟩ := x
  have hv0 := hv
  obtain ⟨A, c, hu', hc1, hc2, hc⟩ := hv.one
  subst hu'
  have hv0 : Sl elU8 w ok (.slice A body.length c) body := hv0
  have HV := Lib.hid hv0
  clear hv hc hv0
  have hbl : body.length ≤ 9223372036854775807 := Nat.le_trans hc1 hc2
  show Calls Tryd.prog 81 #[.agg #[.int .u8 k8.toNat, .slice A body.length c]] w (RetB w (RecPost w.heap.size (recRead ⟨k8, body⟩)))
  have hkl := k8.toNat_lt
  rcases hk : known k8.toNat with _ | _
  · have hq : recRead ⟨k8, body⟩ = .error 2 := by unfold recRead; simp only [hk]; rfl
    rw [hq]
    go_enter Tryd.func81, Tryd.ntmps81
    go_wp2_with (go_at_call 47; have h := known_any (k8.toNat : Int); rw [hk] at h; refine (h _).mono ?_; clear h; rintro e w1 ⟨rfl, rfl⟩)
    refine bodyPost_ret (results_vals _ _ rfl (by simp) (.cell (by exact (blk_al2 _ _ _ _).alloc _) rfl Tryd.underlying26 rfl rfl (.tmp rfl .nil))) rfl ?_
    exact ⟨_, rfl, below_alloc (below_alloc (below_alloc (Below.refl _ _) _) _) _, rfl⟩
  · have hk1 : 1 ≤ (k8.toNat : Int) ∧ (k8.toNat : Int) ≤ 17 := by simpa [known] using hk
    have hidx := index_numbers (k8.toNat : Int) hk1.1 hk1.2
    go_enter Tryd.func81, Tryd.ntmps81
    go_wp2_with (go_at_call 47; have h := known_any (k8.toNat : Int); rw [hk] at h; refine (h _).mono ?_; clear h; rintro e w1 ⟨rfl, rfl⟩)
    have hbel0 : Below w.heap.size w (((w.alloc (.cells #[.int .u8 k8.toNat, .slice A body.length c] 126)).alloc (.cells #[.int .i64 0, .slice none 0 0, .string ⟨#[]⟩] 26)).alloc (.cells #[.int .i64 k8.toNat, .slice none 0 0, .string ⟨#[]⟩] 26)) := below_alloc (below_alloc (below_alloc (Below.refl _ _) _) _) _
    have hB1 : Blk (((w.alloc (.cells #[.int .u8 k8.toNat, .slice A body.length c] 126)).alloc (.cells #[.int .i64 0, .slice none 0 0, .string ⟨#[]⟩] 26)).alloc (.cells #[.int .i64 k8.toNat, .slice none 0 0, .string ⟨#[]⟩] 26)) (w.heap.size + 1) [.int .i64 0, .slice none 0 0, .string ⟨#[]⟩] 26 := (blk_al2 w _ [.int .i64 0, .slice none 0 0, .string ⟨#[]⟩] _).alloc _
    have hB2 : Blk (((w.alloc (.cells #[.int .u8 k8.toNat, .slice A body.length c] 126)).alloc (.cells #[.int .i64 0, .slice none 0 0, .string ⟨#[]⟩] 26)).alloc (.cells #[.int .i64 k8.toNat, .slice none 0 0, .string ⟨#[]⟩] 26)) (w.heap.size + 1 + 1) [.int .i64 k8.toNat, .slice none 0 0, .string ⟨#[]⟩] 26 := blk_al3 w _ _ [.int .i64 k8.toNat, .slice none 0 0, .string ⟨#[]⟩] _
    generalize ((w.alloc (.cells #[.int .u8 k8.toNat, .slice A body.length c] 126)).alloc (.cells #[.int .i64 0, .slice none 0 0, .string ⟨#[]⟩] 26)).alloc (.cells #[.int .i64 k8.toNat, .slice none 0 0, .string ⟨#[]⟩] 26) = W at hbel0 hB1 hB2 ⊢
    have c0 := hB2.at 0 _ rfl
    refine reg_start (fun w' => w'.cell? ⟨w.heap.size + 1 + 1, 0, none⟩ = some (.int .i64 k8.toNat)) (by kernel_rfl) ?_ (fun hHeld => ?_)
    · first | exact c0 | (dsimp only; go_keep)
    refine reg_take (v := ?v1) 1 rfl (by kernel_rfl) (by kernel_rfl) (by kernel_rfl) (by rfl) ?hy1 (by assumption) ?_
    case hy1 => (intro w hSw; (try dsimp only at hSw); go_simp; try with_reducible rfl)
    try simp only [Act.put, List.setIfInBounds_toArray, List.set_cons_zero, List.set_cons_succ]
    refine reg_take (v := ?v2) 2 rfl (by kernel_rfl) (by kernel_rfl) (by kernel_rfl) (by rfl) ?hy2 (by assumption) ?_
    case hy2 => (intro w hSw; (try dsimp only at hSw); go_simp; try with_reducible rfl)
    try simp only [Act.put, List.setIfInBounds_toArray, List.set_cons_zero, List.set_cons_succ]
    refine reg_take (v := ?v3) 4 rfl (by kernel_rfl) (by kernel_rfl) (by kernel_rfl) (by rfl) ?hy3 (by assumption) ?_
    case hy3 => (intro w hSw; (try dsimp only at hSw); go_simp; try with_reducible rfl)
    try simp only [Act.put, List.setIfInBounds_toArray, List.set_cons_zero, List.set_cons_succ]
    refine reg_one 0 rfl (by kernel_rfl) (fun K hK => ?_)
    go_simp
    refine (numbers_any _).mono ?_
    rintro e w1 ⟨v1, rfl, hb1, rfl⟩
    replace hb1 := below_of_drew hb1
    have k0 := cell_below hb1 c0
    refine hK.out _ _ ?_ (fun hHeld => ?_)
    · first | exact k0 | (dsimp only; go_keep)
    clear hK K
    try simp only [Act.put, List.setIfInBounds_toArray, List.set_cons_zero, List.set_cons_succ]
    refine reg_take (v := ?v4) 3 rfl (by kernel_rfl) (by kernel_rfl) (by kernel_rfl) (by rfl) ?hy4 (by assumption) ?_
    case hy4 => (intro w hSw; (try dsimp only at hSw); go_simp; try with_reducible rfl)
    try simp only [Act.put, List.setIfInBounds_toArray, List.set_cons_zero, List.set_cons_succ]
    refine reg_done (by kernel_rfl) ?_
    replace hB1 := hB1.belowS hb1
    replace hB2 := hB2.belowS hb1
    replace hbel0 := below_step hbel0 hb1
    clear hHeld c0 k0 hb1
    obtain ⟨N, hN⟩ : ∃ N, N = numbersOf (k8.toNat : Int) := ⟨_, rfl⟩
    have hN10 : N ≤ 10 := by rw [hN]; exact numbersOf_le _
    rw [← hN]
    have HNN := Lib.hid hN
    clear hN hidx
    go_wp2_with fail
    go_loopw [5, 24] (fun v i wr => ∃ (nums : List Nat) (b : List UInt8) (un : Value), nums.length ≤ N ∧ i = .int .i64 nums.length ∧ Sl elU8 w ok v b ∧ Blk wr (w.heap.size + 1 + 1) [.int .i64 k8.toNat, un, .string ⟨#[]⟩] 26 ∧ Blk wr (w.heap.size + 1) [.int .i64 0, .slice none 0 0, .string ⟨#[]⟩] 26 ∧ OwnU wr (w.heap.size + 3) un nums ∧ takeNums N body = preNums nums (takeNums (N - nums.length) b) ∧ Below w.heap.size w wr) (fun _ i _ => N - (intOf i).toNat)
    case atStart => exact ⟨[], body, .slice none 0 0, by simp, rfl, HV.out, hB2, hB1, World.ownsRow_nil _ _ _ _, by rw [preNums_nil]; rfl, hbel0⟩
    case round =>
      clear hB1 hB2 hbel0
      obtain ⟨nums, b, un, hnl, rfl, hv5, hB2, hB1, hown, hq, hbel⟩ := hrel
      by_cases hlt : nums.length < N
      · have HV5 := Lib.hid (hv5.below hbel Nat.one_pos)
        have HVW := Lib.hid hv5
        obtain ⟨A5, c5, hv5e, h51, h52, hcell5⟩ := hv5.one
        subst hv5e
        obtain ⟨m, hm⟩ : ∃ m, N - nums.length = m + 1 := ⟨N - nums.length - 1, by omega⟩
        rw [hm] at hq
        have HM : Hid (N - (nums.length + 1) = m) := by unfold Hid; omega
        have HB1 := Lib.hid hB1
        have HB2 := Lib.hid hB2
        have HBEL := Lib.hid hbel
        have hsz3 : w.heap.size + 1 + 1 < wr.heap.size := hB2.lt
        rcases hq1 : vget b with e | ⟨n, used⟩
        · have hr : recRead ⟨k8, body⟩ = .error e := by unfold recRead; simp only [hk, if_true, ← HNN.out, hq, preNums_err hq1]
          have HR := Lib.hid hr
          have hen : ((e : Int) != 0) = true := by rcases vgetFrom_err _ _ _ _ hq1 with rfl | rfl <;> rfl
          have d0 := hB1.at 0 _ rfl
          have d1 := hB1.at 1 _ rfl
          have d2 := hB1.at 2 _ rfl
          have g0 := hB1.frozen 0
          have g1 := hB1.frozen 1
          have g2 := hB1.frozen 2
          clear hr hq hbel hB1 hB2 hcell5
          go_wp2_with (go_at_call 96; have h := vget_any _ b ok wr HV5.out; rw [hq1] at h; simp only [getV] at h; refine h.mono ?_; clear h; rintro e' w2 ⟨rfl, rfl⟩)
          refine bodyPost_ret (results_vals _ _ rfl (by simp) (.cell (by exact ((HB1.out.set _ _).set _ _).set _ _) rfl Tryd.underlying26 rfl rfl (.tmp rfl .nil))) rfl ?_
          rw [HR.out]
          exact ⟨_, rfl, below_set (below_set (below_set HBEL.out (by omega) _ _) (by omega) _ _) (by omega) _ _, rfl⟩
        · have hu := vget_used hq1
          have HQ : Hid (takeNums N body = preNums (nums ++ [n]) (takeNums m (b.drop used))) := by unfold Hid; rw [hq, preNums_step hq1]
          obtain ⟨b2, o2, rfl, _, _⟩ := hcell5 (by omega)
          have hi1 : (used : Int) ≤ (b.length : Int) := by omega
          have hi2 : (b.length : Int) ≤ (c5 : Int) := by omega
          have hnn : nums.length ≤ 10 := by omega
          obtain ⟨Au, cu, hune, hcu1, hcu2, _⟩ := hown.sl.one
          subst hune
          have c0 := hB2.at 0 _ rfl
          have c1 := hB2.at 1 _ rfl
          have c2 := hB2.at 2 _ rfl
          have f1 := hB2.frozen 1
          have HOWN := Lib.hid hown
          clear hown hq hcell5 hbel hB1 hB2
          go_wp2_with (go_at_call 96; have h := vget_any _ b ok wr HV5.out; rw [hq1] at h; simp only [getV] at h; refine h.mono ?_; clear h; rintro e' w2 ⟨rfl, rfl⟩)
          refine reg_start (fun _ => True) (by kernel_rfl) ?_ (fun hHeld => ?_)
          · first | exact trivial | (dsimp only; go_keep)
          refine reg_take (v := ?v5) 0 rfl (by kernel_rfl) (by kernel_rfl) (by kernel_rfl) (by rfl) ?hy5 (by assumption) ?_
          case hy5 => (intro w hSw; (try dsimp only at hSw); go_simp; try with_reducible rfl)
          try simp only [Act.put, List.setIfInBounds_toArray, List.set_cons_zero, List.set_cons_succ]
          refine reg_take (v := ?v6) 2 rfl (by kernel_rfl) (by kernel_rfl) (by kernel_rfl) (by rfl) ?hy6 (by assumption) ?_
          case hy6 => (intro w hSw; (try dsimp only at hSw); go_simp; try with_reducible rfl)
          try simp only [Act.put, List.setIfInBounds_toArray, List.set_cons_zero, List.set_cons_succ]
          refine reg_take (v := ?v7) 5 rfl (by kernel_rfl) (by kernel_rfl) (by kernel_rfl) (by rfl) ?hy7 (by assumption) ?_
          case hy7 => (intro w hSw; (try dsimp only at hSw); go_simp; try with_reducible rfl)
          try simp only [Act.put, List.setIfInBounds_toArray, List.set_cons_zero, List.set_cons_succ]
          refine reg_take (v := ?v8) 6 rfl (by kernel_rfl) (by kernel_rfl) (by kernel_rfl) (by rfl) ?hy8 (by assumption) ?_
          case hy8 => (intro w hSw; (try dsimp only at hSw); go_simp; try with_reducible rfl)
          try simp only [Act.put, List.setIfInBounds_toArray, List.set_cons_zero, List.set_cons_succ]
          refine reg_take (v := ?v9) 7 rfl (by kernel_rfl) (by kernel_rfl) (by kernel_rfl) (by rfl) ?hy9 (by assumption) ?_
          case hy9 => (intro w hSw; (try dsimp only at hSw); go_simp; try with_reducible rfl)
          try simp only [Act.put, List.setIfInBounds_toArray, List.set_cons_zero, List.set_cons_succ]
          refine reg_two 1 3 rfl rfl (by kernel_rfl) (fun K hK => ?_) (fun K hK => ?_)
          · go_simp
            refine hK.out _ _ ?_ (fun hHeld => ?_)
            · first | exact trivial | (dsimp only; go_keep)
            clear hK K
            try simp only [Act.put, List.setIfInBounds_toArray, List.set_cons_zero, List.set_cons_succ]
            refine reg_one 3 rfl (by kernel_rfl) (fun K hK => ?_)
            go_simp
            refine hK.out _ _ ?_ (fun hHeld => ?_)
            · first | exact trivial | (dsimp only; go_keep)
            clear hK K
            try simp only [Act.put, List.setIfInBounds_toArray, List.set_cons_zero, List.set_cons_succ]
            refine reg_one 4 rfl (by kernel_rfl) (fun K hK => ?_)
            refine step_app_cells (W := wr.drew) (w.heap.size + 3) rfl (.tmp 37) (.tmp 39) 24 22 (.int .u64 0) 1 8 rfl Tryd.underlying24 infoU64 rfl (by decide) (.slice Au nums.length cu) nums.length (nums.map fun n : Nat => Value.int .u64 n) [.int .u64 n] rfl rfl (by simp [Value.oneCell']) rfl HOWN.out (Nat.le_trans (by omega) hsz3) (by unfold maxLen; omega) (by omega) ?_
            intro v1 w1 hown1 hg1 hlie1 hsh1
            obtain ⟨gv, kv, rfl⟩ := hsh1
            have hap : Below (w.heap.size + 3) wr w1 := below_own (Below.refl _ _) hsz3 HOWN.out (grown_of_drew hg1)
            have hC2 := HB2.out.below hap (by omega)
            have hk1 := hC2.at 1 _ rfl
            have hkf := hC2.frozen 1
            refine hK.out _ _ ?_ (fun hHeld => ?_)
            · first | exact trivial | (dsimp only; go_keep)
            clear hK K
            try simp only [Act.put, List.setIfInBounds_toArray, List.set_cons_zero, List.set_cons_succ]
            refine reg_take (v := ?v10) 8 rfl (by kernel_rfl) (by kernel_rfl) (by kernel_rfl) (by rfl) ?hy10 (by assumption) ?_
            case hy10 => (intro w hSw; (try dsimp only at hSw); go_simp; try with_reducible rfl)
            try simp only [Act.put, List.setIfInBounds_toArray, List.set_cons_zero, List.set_cons_succ]
            refine reg_one 9 rfl (by kernel_rfl) (fun K hK => ?_)
            go_simp
            refine hK.out _ _ ?_ (fun hHeld => ?_)
            · first | exact trivial | (dsimp only; go_keep)
            clear hK K
            try simp only [Act.put, List.setIfInBounds_toArray, List.set_cons_zero, List.set_cons_succ]
            refine reg_take (v := ?v11) 10 rfl (by kernel_rfl) (by kernel_rfl) (by kernel_rfl) (by rfl) ?hy11 (by assumption) ?_
            case hy11 => (intro w hSw; (try dsimp only at hSw); go_simp; try with_reducible rfl)
            try simp only [Act.put, List.setIfInBounds_toArray, List.set_cons_zero, List.set_cons_succ]
            refine reg_done (by kernel_rfl) ?_
            go_wp2_with fail
            go_roundw
            case rel =>
              refine ⟨nums ++ [n], b.drop used, .slice (some ⟨gv, 0, none⟩) (nums.length + 1) kv, by rw [List.length_append]; simp; omega, by rw [List.length_append]; go_num, Sl.low HVW.out used hu.2, hC2.set _ _, (HB1.out.below hap (by omega)).far (by simp) _, ?_, ?_, ?_⟩
              · have ho : OwnU w1 (w.heap.size + 3) (.slice (some ⟨gv, 0, none⟩) (nums.length + 1) kv) (nums ++ [n]) := by
                  unfold OwnU
                  rw [List.length_append, List.map_append]
                  exact hown1
                exact ho.set (by omega) _ _
              · rw [HQ.out, List.length_append, show N - (nums.length + [n].length) = m from HM.out]
              · exact below_set (HBEL.out.trans (below_weak hap (by omega))) (by omega) _ _
            case measure => simp [intOf]; omega
          · go_simp
            refine hK.out _ _ ?_ (fun hHeld => ?_)
            · first | exact trivial | (dsimp only; go_keep)
            clear hK K
            try simp only [Act.put, List.setIfInBounds_toArray, List.set_cons_zero, List.set_cons_succ]
            refine reg_one 1 rfl (by kernel_rfl) (fun K hK => ?_)
            go_simp
            refine hK.out _ _ ?_ (fun hHeld => ?_)
            · first | exact trivial | (dsimp only; go_keep)
            clear hK K
            try simp only [Act.put, List.setIfInBounds_toArray, List.set_cons_zero, List.set_cons_succ]
            refine reg_one 4 rfl (by kernel_rfl) (fun K hK => ?_)
            refine step_app_cells (W := wr.drew) (w.heap.size + 3) rfl (.tmp 37) (.tmp 39) 24 22 (.int .u64 0) 1 8 rfl Tryd.underlying24 infoU64 rfl (by decide) (.slice Au nums.length cu) nums.length (nums.map fun n : Nat => Value.int .u64 n) [.int .u64 n] rfl rfl (by simp [Value.oneCell']) rfl HOWN.out (Nat.le_trans (by omega) hsz3) (by unfold maxLen; omega) (by omega) ?_
            intro v1 w1 hown1 hg1 hlie1 hsh1
            obtain ⟨gv, kv, rfl⟩ := hsh1
            have hap : Below (w.heap.size + 3) wr w1 := below_own (Below.refl _ _) hsz3 HOWN.out (grown_of_drew hg1)
            have hC2 := HB2.out.below hap (by omega)
            have hk1 := hC2.at 1 _ rfl
            have hkf := hC2.frozen 1
            refine hK.out _ _ ?_ (fun hHeld => ?_)
            · first | exact trivial | (dsimp only; go_keep)
            clear hK K
            try simp only [Act.put, List.setIfInBounds_toArray, List.set_cons_zero, List.set_cons_succ]
            refine reg_take (v := ?v12) 8 rfl (by kernel_rfl) (by kernel_rfl) (by kernel_rfl) (by rfl) ?hy12 (by assumption) ?_
            case hy12 => (intro w hSw; (try dsimp only at hSw); go_simp; try with_reducible rfl)
            try simp only [Act.put, List.setIfInBounds_toArray, List.set_cons_zero, List.set_cons_succ]
            refine reg_one 9 rfl (by kernel_rfl) (fun K hK => ?_)
            go_simp
            refine hK.out _ _ ?_ (fun hHeld => ?_)
            · first | exact trivial | (dsimp only; go_keep)
            clear hK K
            try simp only [Act.put, List.setIfInBounds_toArray, List.set_cons_zero, List.set_cons_succ]
            refine reg_take (v := ?v13) 10 rfl (by kernel_rfl) (by kernel_rfl) (by kernel_rfl) (by rfl) ?hy13 (by assumption) ?_
            case hy13 => (intro w hSw; (try dsimp only at hSw); go_simp; try with_reducible rfl)
            try simp only [Act.put, List.setIfInBounds_toArray, List.set_cons_zero, List.set_cons_succ]
            refine reg_done (by kernel_rfl) ?_
            go_wp2_with fail
            go_roundw
            case rel =>
              refine ⟨nums ++ [n], b.drop used, .slice (some ⟨gv, 0, none⟩) (nums.length + 1) kv, by rw [List.length_append]; simp; omega, by rw [List.length_append]; go_num, Sl.low HVW.out used hu.2, hC2.set _ _, (HB1.out.below hap (by omega)).far (by simp) _, ?_, ?_, ?_⟩
              · have ho : OwnU w1 (w.heap.size + 3) (.slice (some ⟨gv, 0, none⟩) (nums.length + 1) kv) (nums ++ [n]) := by
                  unfold OwnU
                  rw [List.length_append, List.map_append]
                  exact hown1
                exact ho.set (by omega) _ _
              · rw [HQ.out, List.length_append, show N - (nums.length + [n].length) = m from HM.out]
              · exact below_set (HBEL.out.trans (below_weak hap (by omega))) (by omega) _ _
            case measure => simp [intOf]; omega
      · have hN2 : nums.length = N := by omega
        have hq2 : takeNums N body = .ok (nums, b) := by
          rw [hq, hN2, Nat.sub_self]
          simp [takeNums, preNums]
        have HS := Lib.hid hv5
        obtain ⟨A5, c5, hv5e, h51, h52, _⟩ := hv5.one
        subst hv5e
        obtain ⟨Au, cu, hune, _, _, _⟩ := hown.sl.one
        rw [hN2] at hune
        subst hune
        have c0 := hB2.at 0 _ rfl
        have c1 := hB2.at 1 _ rfl
        have c2 := hB2.at 2 _ rfl
        have f2 := hB2.frozen 2
        have d0 := hB1.at 0 _ rfl
        have d1 := hB1.at 1 _ rfl
        have d2 := hB1.at 2 _ rfl
        have g0 := hB1.frozen 0
        have g1 := hB1.frozen 1
        have g2 := hB1.frozen 2
        have hconv := conv_str (HS.out.below hbel Nat.one_pos)
        have HOWN := Lib.hid hown
        have HBEL := Lib.hid hbel
        have HB1 := Lib.hid hB1
        have HB2 := Lib.hid hB2
        clear hq hown hbel hB1 hB2
        rcases hft : fits (k8.toNat : Int) b.length with _ | _
        · have hr : recRead ⟨k8, body⟩ = .error 2 := by unfold recRead; simp only [hk, if_true, ← HNN.out, hq2, hft]; rfl
          have HR := Lib.hid hr
          clear hr hq2
          go_wp2_with (go_at_call 49; have h := fits_any (k8.toNat : Int) b.length; rw [hft] at h; refine (h _).mono ?_; clear h; rintro e w2 ⟨rfl, rfl⟩)
          refine bodyPost_ret (results_vals _ _ rfl (by simp) (.cell (by exact ((HB1.out.set _ _).set _ _).set _ _) rfl Tryd.underlying26 rfl rfl (.tmp rfl .nil))) rfl ?_
          rw [HR.out]
          exact ⟨_, rfl, below_set (below_set (below_set HBEL.out (by omega) _ _) (by omega) _ _) (by omega) _ _, rfl⟩
        · have hr : recRead ⟨k8, body⟩ = .ok ⟨(k8.toNat : Int), nums, b⟩ := by unfold recRead; simp only [hk, if_true, ← HNN.out, hq2, hft]
          have HR := Lib.hid hr
          clear hr hq2
          go_wp2_with (go_at_call 49; have h := fits_any (k8.toNat : Int) b.length; rw [hft] at h; refine (h _).mono ?_; clear h; rintro e w2 ⟨rfl, rfl⟩)
          refine bodyPost_ret (results_vals _ _ rfl (by simp) (.cell (by exact (((HB1.out.far (by simp) _).set _ _).set _ _).set _ _) rfl Tryd.underlying26 rfl rfl (.tmp rfl .nil))) rfl ?_
          rw [HR.out]
          exact ⟨_, rfl, below_set (below_set (below_set (below_set HBEL.out (by omega) _ _) (by omega) _ _) (by omega) _ _) (by omega) _ _, _, rfl, ((((HOWN.out.set (by omega) _ _).set (by omega) _ _).set (by omega) _ _).set (by omega) _ _).less (by omega)⟩

end Go.Proofs.YtocmnhjgknaocaaDoor
