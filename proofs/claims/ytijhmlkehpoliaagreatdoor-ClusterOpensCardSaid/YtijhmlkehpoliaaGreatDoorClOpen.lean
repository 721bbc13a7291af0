/- What a new cluster opens: the store, the shards, the log, the nodes, the sessions. -/
import Derived.Test.YtijhmlkehpoliaaGreatDoorClNode
import Derived.Handy
import Derived.Deep.RegionWith
set_option linter.unusedVariables false
set_option linter.unusedSimpArgs false
namespace Go.Proofs.YtijhmlkehpoliaaGreatDoor
open Go.RowKit

def IsNet0 (w : World) (p : Nat) : Prop := w.heap[p]? = some (.cells #[.slice none 0 0] 96 (0, 0))
theorem netLen (p : Nat) (w : World) (h : IsNet0 w p) : Calls Tryz.prog 25 #[.pointer (some ⟨p, 0, none⟩)] w fun e w' => e = .returned (.int .i64 0) ∧ w' = w := by
  have h0 : w.cell? ⟨p, 0, none⟩ = some (.slice none 0 0) := blk_cell h 0
  go_enter Tryz.func25, Tryz.ntmps25
  go_wp2
  go_ret
  exact ⟨rfl, rfl⟩

/-- A store that holds nothing. -/
def Kv0 (w : World) (q : Nat) : Prop := ∃ p, w.heap[q]? = some (.cells #[.pointer (some ⟨p, 0, none⟩), .slice none 0 0, .int .i64 0] 98 (0, 0))
theorem kvOpen (p : Nat) (w : World) (hd : Disk0 w p) : Calls Tryz.prog 14 #[.pointer (some ⟨p, 0, none⟩)] w fun e w' => ∃ q, e = .returned (.pointer (some ⟨q, 0, none⟩)) ∧ w.heap.size ≤ q ∧ q < w'.heap.size ∧ Kv0 w' q ∧ Below w.heap.size w w' := by
  go_enter Tryz.func14, Tryz.ntmps14
  go_wp2_with (go_at_call 28; refine (read0 p _ _ (hd.below bel) (by decide)).mono ?_; rintro e w' ⟨rfl, rfl⟩)
  go_ret
  exact ⟨_, rfl, Nat.le_refl _, by simp, ⟨p, new_at rfl⟩, bel⟩
theorem kvGet (q : Nat) (w : World) (hd : Kv0 w q) : Calls Tryz.prog 23 #[.pointer (some ⟨q, 0, none⟩)] w fun e w' => e = .returned (.tuple #[.agg #[.int .i64 0, .slice none 0 0, .slice none 0 0], .bool false]) ∧ Below w.heap.size w w' := by
  have hn := fun (w : World) (a : Option Addr) (n c : Nat) => Lib.run_eql_slice_nil (P := Tryz.prog) w 90 _ a n c 0 0 Tryz.underlying90
  obtain ⟨p, h⟩ := hd
  have h1 : w.cell? ⟨q, 1, none⟩ = some (.slice none 0 0) := blk_cell h 1
  have hq := lt_of_blk h
  go_enter Tryz.func23, Tryz.ntmps23
  go_wp2
  go_returns
  exact ⟨rfl, bel⟩

theorem sfits (n lo hi : Int) (w : World) : Calls Tryz.prog 48 #[.int .i64 n, .int .i64 lo, .int .i64 hi] w fun e w' => e = .returned (.bool (btw lo n hi)) ∧ w = w' := by
  go_enter Tryz.func48, Tryz.ntmps48
  go_wp2
  all_goals go_ret
  all_goals exact ⟨rb (by unfold btw; rw [Bool.eq_iff_iff]; simp <;> omega), rfl⟩
theorem sefits (n lo hi : Int) (w : World) : Calls Tryz.prog 36 #[.int .i64 n, .int .i64 lo, .int .i64 hi] w fun e w' => e = .returned (.bool (btw lo n hi)) ∧ w = w' := by
  go_enter Tryz.func36, Tryz.ntmps36
  go_wp2
  all_goals go_ret
  all_goals exact ⟨rb (by unfold btw; rw [Bool.eq_iff_iff]; simp <;> omega), rfl⟩
theorem newBuf (w : World) : Calls Tryz.prog 49 #[] w fun e w' => e = .returned (.pointer (some ⟨w.heap.size + 1, 0, none⟩)) ∧ w' = (w.alloc (.map #[] 0)).alloc (.cells #[.map (some w.heap.size), .int .i64 0] 201) := by
  have hmm := @run_makeMap Tryz.prog
  go_enter Tryz.func49, Tryz.ntmps49
  go_wp2
  go_ret
  exact ⟨by simp, rfl⟩
set_option maxHeartbeats 400000 in
theorem shardOpen (p : Nat) (i k : Int) (s : Sp) (w : World) : Calls Tryz.prog 30 #[.pointer (some ⟨p, 0, none⟩), .int .i64 i, .int .i64 k, .agg #[.int .i64 s.ret, .int .i64 s.blk, .int .i64 s.fut]] w fun e w' => ∃ a c, e = .returned (.tuple #[.pointer a, c]) ∧ Below w.heap.size w w' := by
  go_enter Tryz.func30, Tryz.ntmps30
  go_wp2_with (first | (go_at_call 48; refine (sfits _ _ _ _).mono ?_; rintro e w' ⟨rfl, rfl⟩) | (go_at_call 49; refine (newBuf _).mono ?_; rintro e w' ⟨rfl, rfl⟩))
  all_goals try (go_region_with (go_at_call 49; refine (newBuf _).mono ?_; rintro e w' ⟨rfl, rfl⟩))
  all_goals go_wp2
  all_goals go_ret2
  all_goals exact ⟨_, _, rfl, bel⟩
end Go.Proofs.YtijhmlkehpoliaaGreatDoor
