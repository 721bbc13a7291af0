/- The log on a disk without files. -/
import Derived.Test.YtijhmlkehpoliaaGreatDoorClOpen
import Derived.RangeFuncNested
import Derived.RangeFuncBound
import Derived.RangeFuncCalls
import Derived.RangeFuncLeaves
import Derived.RangeFuncBox
import Derived.Shelf.Abstract
import Derived.Shelf.RegionOpen
import Derived.WalkKit
import Derived.OwnWalkIn
import Derived.TacticsInMore
import Derived.LoopNIn
import Derived.LoopIn
set_option linter.unusedVariables false
set_option linter.unusedSimpArgs false
namespace Go.Proofs.YtijhmlkehpoliaaGreatDoor
open Go.RowKit Go.Shelf

theorem ins0 (A : Option Addr) (c : Nat) (w : World) : Calls Tryz.prog 150 #[.slice A 0 c, .int .i64 0, .int .i64 0] w fun e w' => (∃ v, e = .returned v) ∧ w' = w := by
  go_enter Tryz.func150, Tryz.ntmps150
  go_wp2
  go_loopw [6] (fun v w' => v = .int .i64 1 ∧ w' = w) (fun _ _ => 0)
  case atStart => exact ⟨rfl, rfl⟩
  case round =>
    obtain ⟨rfl, rfl⟩ := hrel
    go_wp2
    go_end0
    exact ⟨⟨_, rfl⟩, rfl⟩
theorem pdq0 (A : Option Addr) (c : Nat) (n : Int) (w : World) : Calls Tryz.prog 104 #[.slice A 0 c, .int .i64 0, .int .i64 0, .int .i64 n] w fun e w' => (∃ v, e = .returned v) ∧ w' = w := by
  go_enter Tryz.func104, Tryz.ntmps104
  go_wp2
  go_loopw [1, 2] (fun a b w' => a = .int .i64 0 ∧ b = .int .i64 0 ∧ w' = w) (fun _ _ _ => 0)
  case atStart => exact ⟨rfl, rfl, rfl⟩
  case round =>
    obtain ⟨rfl, rfl, rfl⟩ := hrel
    go_wp2_with (go_at_call 150; refine (ins0 _ _ _).mono ?_; rintro e w' ⟨⟨v, rfl⟩, rfl⟩)
    refine bodyPost_ret (results_none rfl _ _ _) rfl ?_
    exact ⟨⟨_, rfl⟩, rfl⟩
theorem len0 (w : World) : Calls Tryz.prog 105 #[.int .u64 0] w fun e w' => (∃ n, e = .returned (.int .i64 n)) ∧ w' = w := by
  go_enter Tryz.func105, Tryz.ntmps105
  go_wp2
  all_goals go_ret
  all_goals exact ⟨⟨_, rfl⟩, rfl⟩
theorem sort0 (A : Option Addr) (c : Nat) (w : World) : Calls Tryz.prog 77 #[.slice A 0 c] w fun e w' => (∃ v, e = .returned v) ∧ w' = w := by
  go_enter Tryz.func77, Tryz.ntmps77
  go_wp2_with (first | (go_at_call 105; refine (len0 _).mono ?_; rintro e w' ⟨⟨n, rfl⟩, rfl⟩) | (go_at_call 104; refine (pdq0 _ _ _ _).mono ?_; rintro e w' ⟨⟨v, rfl⟩, rfl⟩))
  go_end0
  exact ⟨⟨_, rfl⟩, rfl⟩
theorem values (A : Option Addr) (n c : Nat) (w : World) : Calls Tryz.prog 78 #[.slice A n c] w fun e w' => e = .returned (.func (.func 106) #[] #[.pointer (some ⟨w.heap.size, 0, none⟩)]) ∧ w' = w.alloc (.cells #[.slice A n c] 33) := by
  go_enter Tryz.func78, Tryz.ntmps78
  go_wp2
  go_ret
  exact ⟨rfl, rfl⟩
set_option maxHeartbeats 400000 in
theorem files0 (p : Nat) (w : World) (hd : Disk0 w p) : Calls Tryz.prog 50 #[.pointer (some ⟨p, 0, none⟩)] w fun e w' => ∃ B A c, e = .returned (.func (.func 106) #[] #[.pointer (some ⟨B, 0, none⟩)]) ∧ w'.cell? ⟨B, 0, none⟩ = some (.slice A 0 c) ∧ Below w.heap.size w w' := by
  go_enter Tryz.func50, Tryz.ntmps50
  go_wp2_with (go_at_call 74; refine (names0 p _ hd).mono ?_; rintro e w1 ⟨A, c, rfl, hb⟩)
  go_loopw [3, 13] (fun u v w' => u = .slice none 0 0 ∧ v = .int .i64 0 ∧ w' = w1) (fun _ _ _ => 0)
  case atStart => exact ⟨rfl, rfl, rfl⟩
  case round =>
    obtain ⟨rfl, rfl, rfl⟩ := hrel
    go_wp2_with (first | (go_at_call 77; refine (sort0 _ _ _).mono ?_; rintro e w' ⟨⟨v, rfl⟩, rfl⟩) | (go_at_call 78; refine (values _ _ _ _).mono ?_; rintro e w' ⟨rfl, rfl⟩))
    go_ret
    exact ⟨_, _, _, rfl, (blk_cell (new_at rfl) 0).trans rfl, bel⟩
theorem logNumber (b : Nat) (n : Int) (w : World) (h : w.cell? ⟨b, 1, none⟩ = some (.int .i64 n)) : Calls Tryz.prog 32 #[.pointer (some ⟨b, 0, none⟩)] w fun e w' => e = .returned (.int .i64 n) ∧ w' = w := by
  go_enter Tryz.func32, Tryz.ntmps32
  go_wp2
  go_ret
  exact ⟨rfl, rfl⟩
attribute [local go_sem] Oper.semAt_some
set_option maxRecDepth 100000 in
set_option maxHeartbeats 1000000 in
theorem valNil (F : Fence) (n : Nat) (h7 : F.fn 106) (hro : F.round = none) (l Bs : Nat) (A : Option Addr) (c : Nat) (J : List Int → World → Prop) (W : World) (hBs : W.cell? ⟨Bs, 0, none⟩ = some (.slice A 0 c)) (h0 : J [] W) :
    CallsIn F n Tryz.prog 106 #[.func (.yield l) #[] #[], .pointer (some ⟨Bs, 0, none⟩)] W fun e W' => (∃ v, e = .returned v) ∧ J [] W' := by
  refine callsIn_of_wp Tryz.func106 rfl h7 ?_ hro
  simp only [Tryz.ntmps106, List.size_toArray, List.length_cons, List.length_nil, Nat.reduceAdd, Nat.reduceSub, Array.replicate_succ, Array.replicate_zero, List.push_toArray, List.append_toArray, List.nil_append, List.cons_append]
  gi_wp2
  gi_loopw [7] (fun i wr => i = .int .i64 0 ∧ J [] wr) (fun _ _ => 0)
  case atStart => exact ⟨rfl, h0⟩
  case round =>
    obtain ⟨rfl, hJs⟩ := hrel
    gi_wp2
    go_end0
    exact ⟨⟨_, rfl⟩, hJs⟩
theorem valStops (F : Fence) (n : Nat) (h7 : F.fn 106) (hro : F.round = none) (Bs n₀ : Nat) (A : Option Addr) (c : Nat) (w : World) (hBs : Bs < w.heap.size) (hc : w.cell? ⟨Bs, 0, none⟩ = some (.slice A 0 c)) :
    SeqStopsK F n Tryz.prog 106 #[.pointer (some ⟨Bs, 0, none⟩)] (fun x : Int => #[Value.int .i64 x]) (Below n₀) (fun ys => ys = []) (fun pre => pre <+: []) 0 w := fun l J Jx W hW _ _ hY h0 =>
  (valNil F n h7 hro l Bs A c J W ((hW.cell (p := ⟨Bs, 0, none⟩) hBs).trans hc) h0).mono fun e W' ⟨he, hj⟩ => ⟨he, .inl ⟨_, rfl, hj⟩⟩

set_option maxRecDepth 100000 in
set_option maxHeartbeats 2000000 in
/-- commitlog.Open on a disk without files: a log whose number is 1, no record. -/
theorem logOpen0 (p : Nat) (w : World) (hd : Disk0 w p) : Calls Tryz.prog 31 #[.pointer (some ⟨p, 0, none⟩)] w fun e W' => ∃ b, e = .returned (.tuple #[.pointer (some ⟨b, 0, none⟩), .slice none 0 0]) ∧ w.heap.size ≤ b ∧ W'.cell? ⟨b, 1, none⟩ = some (.int .i64 1) ∧ Below w.heap.size w W' := by
  refine (callsIn_wide (n := 5)).1 ?_
  have hro : Fence.wide.round = none := rfl
  refine callsIn_of_wp_marks Tryz.func31 rfl trivial ?_ hro
  simp only [Tryz.ntmps31, List.size_toArray, List.length_cons, List.length_nil, Nat.reduceAdd, Nat.reduceSub, Array.replicate_succ, Array.replicate_zero, List.push_toArray, List.append_toArray, List.nil_append, List.cons_append]
  gi_wp2_with (refine ⟨trivial, ?_⟩; gi_at_call 50; refine (callsIn_wide.2 (files0 p _ (hd.below bel))).mono ?_; rintro e w' ⟨B, A, c, rfl, hc, hb⟩)
  have c1 : w'.cell? ⟨w.heap.size + 1, 1, none⟩ = some (.int .i64 1) := (hb.cell (by simp)).trans (by go_simp)
  have c4 : w'.cell? ⟨w.heap.size + 1 + 1, 0, none⟩ = some (.pointer (some ⟨w.heap.size + 1, 0, none⟩)) := (hb.cell (by simp)).trans (by go_simp)
  have c5 : w'.cell? ⟨w.heap.size + 1 + 1 + 1, 0, none⟩ = some (.slice none 0 0) := (hb.cell (by simp)).trans (by go_simp)
  have hB0 : Below w.heap.size w w' := bl_then bel hb
  have hBs : B < w'.heap.size := World.block_lt_of_cell? _ _ hc
  refine wpIn_rangeFunc_ownF hro (by decide) (gf := 106) (lb := #[.pointer (some ⟨B, 0, none⟩)]) rfl trivial (enters_of Tryz.func106 (by kernel_rfl) rfl)
    (valStops Fence.wide _ trivial hro B w.heap.size A c _ hBs hc) belowK_t (belowK_b hB0.size) (Below.refl _ _) (fun _ => rfl)
    (fun pre W => (W.cell? ⟨w.heap.size + 1, 1, none⟩ = some (.int .i64 1) ∧ W.cell? ⟨w.heap.size + 1 + 1, 0, none⟩ = some (.pointer (some ⟨w.heap.size + 1, 0, none⟩)) ∧ W.cell? ⟨w.heap.size + 1 + 1 + 1, 0, none⟩ = some (.slice none 0 0)) ∧ Below w.heap.size w W)
    (fun _ _ _ => False)
    (OwnFrom.and (Own.from (fun s A B row hs hg hr => ⟨cell_kept hs.1 hg hr, cell_kept hs.2.1 hg hr, cell_kept hs.2.2 hg hr⟩) _) (ownFrom_below (Nat.le_refl _) hB0.size))
    (fun _ _ _ _ _ hs _ _ => hs)
    ⟨⟨c1, c4, c5⟩, hB0⟩ ?a1 ?assign ?body ?done ?stop
  case assign =>
    intro l x W K hK
    gi_wp2
    exact hK
  case body =>
    intro l pre x W _ h
    exact absurd h (Nat.not_lt_zero _)
  case done =>
    rintro D ys W hD rfl ⟨⟨d1, d4, d5⟩, hB⟩ hK
    gi_wp2
    gi_region
    all_goals gi_wp2
    refine ⟨by simp, .inl ⟨_, _, rfl, run_takeDeferred (show _ = _ from hK), ?_⟩⟩
    refine ⟨_, results_tmp2 rfl _ _ _, _, rfl, by omega, ?_, ?_⟩
    · exact cell_kept (show W.drew.cell? _ = _ from d1) (grownBy_putObj' _ D (.deferred none)) (fun r e => by cases e; exact ⟨_, hK, rfl⟩)
    · exact Below.trans (show Below w.heap.size w W.drew from bl_drewN hB 1) (belowK_b (w := w) (Nat.le_refl _) W.drew D _ _ (by have := hB0.size; omega) hK rfl rfl)
  case stop =>
    rintro D c pre W _ _ h _
    exact h.elim
end Go.Proofs.YtijhmlkehpoliaaGreatDoor
