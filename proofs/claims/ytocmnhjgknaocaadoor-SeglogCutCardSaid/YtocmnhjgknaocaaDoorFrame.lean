import Derived.Test.YtocmnhjgknaocaaDoorVint2
import Derived.Deep.RegionHeld3
set_option linter.unusedVariables false
set_option linter.unusedSimpArgs false
set_option maxRecDepth 100000
namespace Go.Proofs.YtocmnhjgknaocaaDoor
open Go.RowKit Tb
theorem i64_and255 (n : Int) (h0 : 0 ≤ n) (hn : n ≤ 1000000000000) : bits BinOp.and IntKind.i64 n 255 = n % 256 := by
  refine bits_mask .i64 40 (by decide) (fun m h1 h2 => ?_) 8 (by decide) n h0 (by omega)
  rw [IntKind.wrap_i64]; omega

set_option maxHeartbeats 400000 in
theorem low_any (n : Int) (h0 : 0 ≤ n) (hn : n ≤ 1000000000000) (w : World) : Calls Tryd.prog 84 #[.int .i64 n] w (Ret (.tuple #[.int .u8 (n % 256), .int .i64 (n / 256)]) w) := by
  have h1 := i64_and255 n h0 hn
  have h2 : n % 256 % 256 = n % 256 := by omega
  have H2 := Lib.hid h2
  clear h2
  go_enter Tryd.func84, Tryd.ntmps84
  go_wp2
  go_ret2
  exact ⟨by first | rfl | (simp [H2.out]), rfl⟩

/-- Bytes, or an error. -/
def ResB (base : Nat) (o : Except Int (List UInt8)) (r : Value) (w' : World) : Prop :=
  match o with
  | .error e => r = .tuple #[.slice none 0 0, .int .i64 e]
  | .ok bs => ∃ u, r = .tuple #[u, .int .i64 0] ∧ OwnB w' base u bs

set_option maxHeartbeats 800000 in
theorem frameBytes_any (kind : UInt8) (v : Value) (body : List UInt8) (ok : Nat → Prop) (w : World) (hv : Sl elU8 w ok v body) (hl : body.length ≤ 1000000000) :
    Calls Tryd.prog 63 #[.agg #[.int .u8 kind.toNat, v]] w (RetB w (ResB w.heap.size (frmBytes ⟨kind, body⟩))) := by
  have hv0 := hv
  obtain ⟨A, c, rfl, hc1, hc2, hc⟩ := hv.one
  have HV := Lib.hid hv0
  clear hv hv0 hc
  by_cases h4 : 400 < body.length
  · have hq : frmBytes ⟨kind, body⟩ = .error 4 := by unfold frmBytes; rw [if_pos h4]
    rw [hq]
    have hd : decide ((400 : Int) < (body.length : Int)) = true := by simp; omega
    go_enter Tryd.func63, Tryd.ntmps63
    go_wp2_with fail
    go_ret2
    exact ⟨_, rfl, below_alloc (Below.refl _ _) _, rfl⟩
  · have hq : frmBytes ⟨kind, body⟩ = .ok (frmRaw ⟨kind, body⟩) := by unfold frmBytes; rw [if_neg h4]
    rw [hq]
    have hd : decide ((400 : Int) < (body.length : Int)) = false := by simp; omega
    have hlen : body.length ≤ 400 := by omega
    clear h4 hq hl
    go_enter Tryd.func63, Tryd.ntmps63
    go_wp2_with (go_at_call 84; refine (low_any _ (by omega) (by omega) _).mono ?_; rintro e w1 ⟨rfl, rfl⟩)
    have hbel0 : Below w.heap.size w (w.alloc (.cells #[.int .u8 kind.toNat, .slice A body.length c] 126)) := below_alloc (Below.refl _ _) _
    have hbx : Blk (w.alloc (.cells #[.int .u8 kind.toNat, .slice A body.length c] 126)) w.heap.size [.int .u8 kind.toNat, .slice A body.length c] 126 := Blk.new w _ _
    generalize w.alloc (.cells #[.int .u8 kind.toNat, .slice A body.length c] 126) = W at hbel0 hbx ⊢
    have c0 := hbx.at 0 _ rfl
    have c1 := hbx.at 1 _ rfl
    have hBW := hbx.lt
    have HVW := Lib.hid (HV.out.below hbel0 Nat.one_pos)
    have HB0 := Lib.hid hbel0
    have HH : Hid (∀ W' : World, Sl elU8 (W'.alloc (.cells #[.int .u8 kind.toNat, .int .u8 ((body.length : Int) % 256), .int .u8 ((body.length : Int) / 256 % 256)] 5)) (fun _ => True) (.slice (some ⟨W'.heap.size, 0, none⟩) 3 3) (headOf ⟨kind, body⟩)) := by
      intro W'
      have h := (OwnB.lit W' (headOf ⟨kind, body⟩) (by simp [headOf])).sl
      have e : (headOf ⟨kind, body⟩).map (fun b => Value.int .u8 b.toNat) = [.int .u8 kind.toNat, .int .u8 ((body.length : Int) % 256), .int .u8 ((body.length : Int) / 256 % 256)] := by
        simp only [headOf, List.map_cons, List.map_nil, UInt8.toNat_ofNat']
        congr 3 <;> omega
      rw [e] at h
      exact h.weak (fun _ _ _ => trivial) Nat.one_pos
    clear hbel0 hbx
    have HLEN := Lib.hid hlen
    clear hlen
    go_region_held3 (fun w' => w'.cell? ⟨w.heap.size, 0, none⟩ = some (.int .u8 kind.toNat) ∧ w'.cell? ⟨w.heap.size, 1, none⟩ = some (.slice A body.length c))
      (first | go_keep | exact ⟨kb0, kb1⟩ | exact ⟨kh0, kh1⟩ | exact ⟨ka0, ka1⟩)
      ((first
        | (
           refine step_app_row (enc := fun b : UInt8 => Value.int .u8 b.toNat) (fun _ => rfl) W.heap.size ?_ (.tmp 29) (.tmp 32) 67 5 (.int .u8 0) 1 ?_ Tryd.underlying67 infoU8 rfl vh (sumPut (headOf ⟨kind, body⟩)) (sumPut body) vb (fun _ => True) ?_ ?_ ?_ ?_ ?_ ?_ ?_ ?_
           · rfl
           · rfl
           · rfl
           · rfl
           · first | exact (hohS.below hbb) | exact hohS
           · first | exact hob.sl.weak (fun _ _ _ => trivial) Nat.one_pos | exact (hob.sl.below (below_al hbh) Nat.one_pos).weak (fun _ _ _ => trivial) Nat.one_pos
           · have := hbbW.size; have := hbhW.size; omega
           · have := HLEN.out; simp [sumPut, headOf, four, maxLen]; omega
           · have := HLEN.out; simp [sumPut, headOf, four]; omega
           intro v1 w1 hown hg hl1
           have hap : Below W.heap.size W w1 := by first | exact below_own hbbW hbbW.size (hohS.below hbb) hg | exact below_own hbhW hbhW.size hohS hg
           have ka0 := cell_below hap c0
           have ka1 := cell_below hap c1)
        | (go_at_call_of 85 A; refine (put_any (.slice A body.length c) body ok _ ?_ (by have := HLEN.out; omega)).mono ?_; (first | exact HVW.out.heap rfl Nat.one_pos | exact HVW.out.below hbhW Nat.one_pos); rintro e wb ⟨vb, rfl, hbb, hob⟩; have hbbW : Below W.heap.size W wb := (by first | exact below_of_drew hbb | exact below_step hbhW hbb); have kb0 := cell_below hbbW c0; have kb1 := cell_below hbbW c1)
        | (go_at_call 85; refine (put_any _ (headOf ⟨kind, body⟩) (fun _ => True) _ ?_ (by simp [headOf])).mono ?_; exact HH.out _; rintro e wh ⟨vh, rfl, hbh, hoh⟩; have hbhW : Below W.heap.size W wh := (by first | exact below_al (below_of_drew hbh) | exact below_step hbbW (below_al hbh)); have hohS := hoh.less (base := W.heap.size) (by (try have := hbbW.size); simp [World.drew] <;> omega); have kh0 := cell_below hbhW c0; have kh1 := cell_below hbhW c1)
        | fail))
    all_goals (
      have hap := below_step (by exact HB0.out) hap
      go_wp2_with fail
      go_ret2
      refine ⟨_, rfl, hap, v1, rfl, ?_⟩
      exact OwnB.less hown (HB0.out.size))

end Go.Proofs.YtocmnhjgknaocaaDoor
