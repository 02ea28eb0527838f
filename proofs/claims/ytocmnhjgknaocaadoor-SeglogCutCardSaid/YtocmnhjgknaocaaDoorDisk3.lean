import Derived.Test.YtocmnhjgknaocaaDoorDisk2
import Derived.Lib.ConvBytes
set_option linter.unusedVariables false
set_option linter.unusedSimpArgs false
set_option maxRecDepth 100000
namespace Go.Proofs.YtocmnhjgknaocaaDoor
open Go.RowKit Tb

def okChar (c : UInt8) : Bool := c == 46 || (decide (48 ≤ c.toNat) && decide (c.toNat ≤ 57)) || (decide (97 ≤ c.toNat) && decide (c.toNat ≤ 122))
def nameOk (n : List UInt8) : Bool := decide (0 < n.length) && decide (n.length ≤ 12) && n.all okChar
theorem bytes_below (w : World) (e : TypeId) (s : ByteArray) : Below w.heap.size w (Lib.bytesWorld w e s) :=
  ⟨rfl, rfl, rfl, by rw [Lib.bytesWorld_size]; omega, fun j hj => Lib.bytesWorld_at_old w e s j hj⟩

set_option maxHeartbeats 1600000 in
theorem named_any (n : List UInt8) (hl : n.length ≤ 1000000000) (w : World) : Calls Tryd.prog 75 #[strV n] w (RetB w fun v _ => v = .bool (nameOk n)) := by
  show Calls Tryd.prog 75 #[.string ⟨n.toArray⟩] w (RetB w fun v _ => v = .bool (nameOk n))
  by_cases h0 : n.length = 0
  · have hq : nameOk n = false := by simp [nameOk, h0]
    rw [hq]
    have hd : ((n.length : Int) == 0) = true := by simp [h0]
    go_enter Tryd.func75, Tryd.ntmps75
    go_wp2_with fail
    go_ret
    exact ⟨_, rfl, Below.refl _ _, rfl⟩
  · have hd : ((n.length : Int) == 0) = false := by rw [beq_eq_false_iff_ne]; omega
    by_cases h12 : n.length ≤ 12
    · have hd2 : decide ((12 : Int) < (n.length : Int)) = false := by simp; omega
      have hsz : (⟨n.toArray⟩ : ByteArray).size = n.length := by simp [ByteArray.size]
      have hcv := Lib.run_convert_string_bytes (P := Tryd.prog) w 9 67 5 ⟨n.toArray⟩ Tryd.underlying9 Tryd.underlying67 Tryd.underlying5
      rw [hsz] at hcv
      have hge := grownCap_ge w n.length 0 5
      have hcells : ∀ j (h : j < n.length), (Lib.bytesWorld w 5 ⟨n.toArray⟩).cell? ⟨w.heap.size, j, none⟩ = some (.int .u8 n[j].toNat) := fun j hj => by
        rw [Lib.bytesWorld_cell w 5 ⟨n.toArray⟩ j (by rw [hsz]; exact hj)]
        simp [hj]
      have hbel := bytes_below w 5 ⟨n.toArray⟩
      generalize Lib.bytesWorld w 5 ⟨n.toArray⟩ = W at hcv hcells hbel
      generalize grownCap w n.length 0 5 = cap at hcv hge
      have HC := Lib.hid hcells
      have HB := Lib.hid hbel
      have hq : nameOk n = n.all okChar := by unfold nameOk; rw [decide_eq_true (show 0 < n.length by omega), decide_eq_true h12]; rfl
      rw [hq]
      clear hcells hbel hq
      go_enter Tryd.func75, Tryd.ntmps75
      go_wp2_with fail
      go_loop [16] (fun i => ∃ k : Nat, k ≤ n.length ∧ i = .int .i64 k ∧ (n.take k).all okChar = true) (fun i => n.length - (intOf i).toNat)
      case atStart => exact ⟨0, by omega, rfl, rfl⟩
      case round =>
        obtain ⟨k, hk, rfl, hall⟩ := hrel
        by_cases hlt : k < n.length
        · have hck := HC.out k hlt
          have hnext : okChar n[k] = true → (n.take (k + 1)).all okChar = true := fun ho => by
            rw [List.take_succ_eq_append_getElem hlt, List.all_append, hall]; simp [ho]
          have hbad : okChar n[k] = false → n.all okChar = false := fun ho => by
            rw [List.all_eq_false]
            exact ⟨n[k], List.getElem_mem _, by simp [ho]⟩
          have HN := Lib.hid hnext
          have HD := Lib.hid hbad
          have hle : k + 1 ≤ n.length := hlt
          clear hnext hbad hall
          generalize n[k] = c at hck HN HD
          have hclt := c.toNat_lt
          by_cases h46 : c = 46
          · have e1 : ((c.toNat : Int) != 46) = false := by rw [h46]; rfl
            have ho : okChar c = true := by rw [h46]; rfl
            have HO := Lib.hid ho
            clear h46 ho
            go_wp2_with fail
            go_round
            case rel => exact ⟨k + 1, by omega, by go_num, HN.out HO.out⟩
            case measure => simp [intOf]; omega
          · have hc46 : c.toNat ≠ 46 := fun e => h46 (UInt8.toNat_inj.1 e)
            have e1 : ((c.toNat : Int) != 46) = true := by rw [bne_iff_ne]; omega
            have h46b : (c == 46) = false := by simpa using h46
            by_cases h48 : c.toNat < 48
            · have e2 : decide ((c.toNat : Int) < 48) = true := by simp; omega
              have e3 : decide ((c.toNat : Int) < 97) = true := by simp; omega
              have ho : okChar c = false := by unfold okChar; rw [h46b, decide_eq_false (show ¬ 48 ≤ c.toNat by omega), decide_eq_false (show ¬ 97 ≤ c.toNat by omega)]; rfl
              have HO := Lib.hid ho
              clear h46 ho h46b hc46 h48
              go_wp2_with fail
              go_ret
              exact ⟨_, rfl, HB.out, by rw [HD.out HO.out]; rfl⟩
            · have e2 : decide ((c.toNat : Int) < 48) = false := by simp; omega
              by_cases h57 : c.toNat ≤ 57
              · have e3 : decide ((57 : Int) < (c.toNat : Int)) = false := by simp; omega
                have ho : okChar c = true := by unfold okChar; rw [h46b, decide_eq_true (show 48 ≤ c.toNat by omega), decide_eq_true h57]; rfl
                have HO := Lib.hid ho
                clear h46 ho h46b hc46 h48 h57
                go_wp2_with fail
                go_round
                case rel => exact ⟨k + 1, by omega, by go_num, HN.out HO.out⟩
                case measure => simp [intOf]; omega
              · have e3 : decide ((57 : Int) < (c.toNat : Int)) = true := by simp; omega
                by_cases h97 : c.toNat < 97
                · have e4 : decide ((c.toNat : Int) < 97) = true := by simp; omega
                  have ho : okChar c = false := by unfold okChar; rw [h46b, decide_eq_false (show ¬ c.toNat ≤ 57 by omega), decide_eq_false (show ¬ 97 ≤ c.toNat by omega)]; simp
                  have HO := Lib.hid ho
                  clear h46 ho h46b hc46 h48 h57 h97
                  go_wp2_with fail
                  go_ret
                  exact ⟨_, rfl, HB.out, by rw [HD.out HO.out]; rfl⟩
                · have e4 : decide ((c.toNat : Int) < 97) = false := by simp; omega
                  by_cases h122 : c.toNat ≤ 122
                  · have e5 : decide ((122 : Int) < (c.toNat : Int)) = false := by simp; omega
                    have ho : okChar c = true := by unfold okChar; rw [h46b, decide_eq_true (show 97 ≤ c.toNat by omega), decide_eq_true h122]; simp
                    have HO := Lib.hid ho
                    clear h46 ho h46b hc46 h48 h57 h97 h122
                    go_wp2_with fail
                    go_round
                    case rel => exact ⟨k + 1, by omega, by go_num, HN.out HO.out⟩
                    case measure => simp [intOf]; omega
                  · have e5 : decide ((122 : Int) < (c.toNat : Int)) = true := by simp; omega
                    have ho : okChar c = false := by unfold okChar; rw [h46b, decide_eq_false (show ¬ c.toNat ≤ 57 by omega), decide_eq_false h122]; simp
                    have HO := Lib.hid ho
                    clear h46 ho h46b hc46 h48 h57 h97 h122
                    go_wp2_with fail
                    go_ret
                    exact ⟨_, rfl, HB.out, by rw [HD.out HO.out]; rfl⟩
        · have HA : Hid (n.all okChar = true) := by
            unfold Hid
            rw [List.take_of_length_le (by omega)] at hall
            exact hall
          clear hall
          obtain rfl : k = n.length := by omega
          go_wp2_with fail
          go_ret
          exact ⟨_, rfl, HB.out, by rw [HA.out]; rfl⟩
    · have hd2 : decide ((12 : Int) < (n.length : Int)) = true := by simp; omega
      have hq : nameOk n = false := by unfold nameOk; rw [decide_eq_false h12]; simp
      rw [hq]
      go_enter Tryd.func75, Tryd.ntmps75
      go_wp2_with fail
      go_ret
      exact ⟨_, rfl, Below.refl _ _, rfl⟩

end Go.Proofs.YtocmnhjgknaocaaDoor
