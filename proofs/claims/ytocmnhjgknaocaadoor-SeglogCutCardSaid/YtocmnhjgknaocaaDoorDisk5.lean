import Derived.Test.YtocmnhjgknaocaaDoorDisk4
set_option linter.unusedVariables false
set_option linter.unusedSimpArgs false
set_option maxRecDepth 100000
namespace Go.Proofs.YtocmnhjgknaocaaDoor
open Go.RowKit Tb
open Go.ChangeMaps (setBlock)

def PDisk.new (room : Int) : PDisk := ⟨room, -1, false, [], [], [], fun _ => ⟨[], 0⟩⟩
def NewPost (w : World) (room : Int) (r : Value) (w' : World) : Prop :=
  if room < 16 ∨ 1048576 < room then r = .tuple #[.pointer none, .int .i64 1]
  else ∃ D mS, r = .tuple #[ptrV D, .int .i64 0] ∧ DiskAt (fun b => w.heap.size ≤ b) w' D (PDisk.new room) mS [] (.slice none 0 0) (fun _ => .slice none 0 0)

set_option maxHeartbeats 800000 in
theorem new_any (room : Int) (w : World) : Calls Tryd.prog 18 #[.int .i64 room] w (RetB w (NewPost w room)) := by
  by_cases h1 : room < 16
  · have e1 : decide (room < 16) = true := by simpa using h1
    go_enter Tryd.func18, Tryd.ntmps18
    go_wp2_with fail
    go_ret2
    refine ⟨_, rfl, Below.refl _ _, ?_⟩
    unfold NewPost
    rw [if_pos (.inl h1)]
    rfl
  · have e1 : decide (room < 16) = false := by simpa using h1
    by_cases h2 : 1048576 < room
    · have e2 : decide (1048576 < room) = true := by simpa using h2
      go_enter Tryd.func18, Tryd.ntmps18
      go_wp2_with fail
      go_ret2
      refine ⟨_, rfl, Below.refl _ _, ?_⟩
      unfold NewPost
      rw [if_pos (.inr h2)]
      rfl
    · have e2 : decide (1048576 < room) = false := by simpa using h2
      have hmk : ∀ W : World, (Instr.makeMap 108 none).run Tryd.prog W = .ok (.map (some W.heap.size)) (W.alloc (.map #[] 0)) := fun _ => rfl
      go_enter Tryd.func18, Tryd.ntmps18
      go_wp2_with fail
      go_ret2
      have hM := (MapIs.new w)
      refine ⟨_, rfl, below_alloc (below_alloc (Below.refl _ _) _) _, ?_⟩
      unfold NewPost
      rw [if_neg (by omega)]
      refine ⟨w.heap.size + 1, w.heap.size, rfl, ?_⟩
      exact {
        fD := by show w.heap.size ≤ w.heap.size + 1; omega
        blk := blk_al2 w _ [.int .i64 room, .map (some w.heap.size), .slice none 0 0, .int .i64 (-1), .bool false] _
        fS := Nat.le_refl _
        mapS := hM.keep (Below.heap_alloc _ _ _ hM.lt)
        lenT := rfl
        fT := fun m hm => by cases hm
        mapT := fun j h _ => absurd h (by simp)
        rowT := World.ownsRow_nil _ _ _ _
        fR := fun b hb => by cases hb
        nodup := List.nodup_nil
        fI := fun i hi => by cases hi
        fileI := fun i hi => by cases hi
        rowI := fun i hi => by cases hi
        fB := fun i hi => by cases hi
        apart := fun i hi => by cases hi
        inS := fun p hp => by cases hp
        inT := fun d hd => by cases hd
        fuse := by show -1 ≤ (-1 : Int) ∧ (-1 : Int) ≤ _; omega
        room := by show 0 ≤ room ∧ room ≤ 1048576; omega
        long := by show 0 ≤ _; omega
        many := by show 0 ≤ _; omega
        bytes := fun i hi => by cases hi }

end Go.Proofs.YtocmnhjgknaocaaDoor
