/- What a new cluster says of itself. -/
import Derived.Test.YtijhmlkehpoliaaGreatDoorClCluster
set_option linter.unusedVariables false
set_option linter.unusedSimpArgs false
namespace Go.Proofs.YtijhmlkehpoliaaGreatDoor
open Go.RowKit

theorem Mach.below {w w' : World} {m : Nat} (h : Mach w m) (hf : Below w.heap.size w w') : Mach w' m := h.fr (S := fun _ => False) (Fr.of_below hf) (fun _ _ _ h => h)
theorem Clus.below {w w' : World} {x k : Nat} (h : Clus w x k) (hf : Below w.heap.size w w') : Clus w' x k := by
  obtain ⟨ms, A2, c2, v3, nb, sb, c0, c1, g1, g2, g3, g4, g5, g6⟩ := h
  exact ⟨ms, A2, c2, v3, nb, sb, c0, c1, (Fr.of_below (S := fun _ => False) hf).blk g1 (fun h => h), g2.below hf, g3, fun m hm => (g4 m hm).below hf, g5.below hf, g6.below hf⟩

theorem machIn (x k n : Nat) (w : World) (h : Clus w x k) (hn : n < k) (hk : k ≤ 8) : Calls Tryz.prog 24 #[.pointer (some ⟨x, 0, none⟩), .int .i64 n] w fun e w' => (∃ m, Mach w m ∧ e = .returned (.pointer (some ⟨m, 0, none⟩))) ∧ w' = w := by
  obtain ⟨ms, A2, c2, v3, nb, sb, c0, c1, g1, g2, g3, g4, g5, g6⟩ := h
  have b2 : w.cell? ⟨x, 2, none⟩ = some (.slice A2 k c2) := blk_cell g1 2
  have hn' : n < ms.length := by omega
  obtain ⟨b, o, rfl, hr⟩ := g2 (by cases ms <;> simp at hn' ⊢)
  have hr' : w.cell? ⟨b, o + n, none⟩ = some (.pointer (some ⟨ms[n], 0, none⟩)) := hr n _ (by rw [List.getElem?_map, List.getElem?_eq_getElem hn']; rfl)
  go_enter Tryz.func24, Tryz.ntmps24
  go_wp2
  go_ret
  exact ⟨⟨_, g4 _ (List.getElem_mem hn'), rfl⟩, rfl⟩
theorem machOut (x k : Nat) (w : World) (h : Clus w x k) : Calls Tryz.prog 24 #[.pointer (some ⟨x, 0, none⟩), .int .i64 k] w fun e w' => e = .returned (.pointer none) ∧ w' = w := by
  obtain ⟨ms, A2, c2, v3, nb, sb, c0, c1, g1, g2, g3, g4, g5, g6⟩ := h
  have b2 : w.cell? ⟨x, 2, none⟩ = some (.slice A2 k c2) := blk_cell g1 2
  go_enter Tryz.func24, Tryz.ntmps24
  go_wp2
  go_ret
  exact ⟨rfl, rfl⟩
theorem upIn (x k n : Nat) (w : World) (h : Clus w x k) (hn : n < k) (hk : k ≤ 8) : Calls Tryz.prog 8 #[.pointer (some ⟨x, 0, none⟩), .int .i64 n] w fun e w' => e = .returned (.bool true) ∧ w' = w := by
  go_enter Tryz.func8, Tryz.ntmps8
  go_wp2_with (go_at_call 24; refine (machIn x k n w h hn hk).mono ?_; rintro e w' ⟨⟨m, ⟨d, q, hm⟩, rfl⟩, rfl⟩; have e1 := blk_cell hm 1; simp only [List.getElem?_toArray, List.getElem?_cons_succ, List.getElem?_cons_zero] at e1)
  all_goals go_ret
  all_goals exact ⟨rfl, rfl⟩
theorem upOut (x k : Nat) (w : World) (h : Clus w x k) : Calls Tryz.prog 8 #[.pointer (some ⟨x, 0, none⟩), .int .i64 k] w fun e w' => e = .returned (.bool false) ∧ w' = w := by
  go_enter Tryz.func8, Tryz.ntmps8
  go_wp2_with (go_at_call 24; refine (machOut x k w h).mono ?_; rintro e w' ⟨rfl, rfl⟩)
  all_goals go_ret
  all_goals exact ⟨rfl, rfl⟩
theorem clockIn (x k n : Nat) (w : World) (h : Clus w x k) (hn : n < k) (hk : k ≤ 8) : Calls Tryz.prog 9 #[.pointer (some ⟨x, 0, none⟩), .int .i64 n] w fun e w' => e = .returned (.int .i64 0) ∧ w' = w := by
  go_enter Tryz.func9, Tryz.ntmps9
  go_wp2_with (go_at_call 24; refine (machIn x k n w h hn hk).mono ?_; rintro e w' ⟨⟨m, ⟨d, q, hm⟩, rfl⟩, rfl⟩; have e3 := blk_cell hm 3; simp only [List.getElem?_toArray, List.getElem?_cons_succ, List.getElem?_cons_zero] at e3)
  all_goals go_ret
  all_goals exact ⟨rfl, rfl⟩
theorem place0 (x k : Nat) (w : World) (h : Clus w x k) : Calls Tryz.prog 7 #[.pointer (some ⟨x, 0, none⟩)] w fun e w' => e = .returned (.tuple #[.agg #[.int .i64 0, .slice none 0 0, .slice none 0 0], .bool false]) ∧ Below w.heap.size w w' := by
  obtain ⟨ms, A2, c2, v3, nb, sb, c0, c1, g1, g2, g3, g4, g5, g6⟩ := h
  have b5 : w.cell? ⟨x, 5, none⟩ = some (.pointer (some ⟨sb, 0, none⟩)) := blk_cell g1 5
  have hx := lt_of_blk g1
  go_enter Tryz.func7, Tryz.ntmps7
  go_wp2_with (go_at_call 23; refine (kvGet sb _ (g6.below bel)).mono ?_; rintro e w' ⟨rfl, hb⟩; have hbs := hb.size; have p0 : w'.cell? ⟨w.heap.size, 0, none⟩ = some (.int .i64 0) := (hb.cell (by simp)).trans (by go_simp); have p1 : w'.cell? ⟨w.heap.size, 1, none⟩ = some (.slice none 0 0) := (hb.cell (by simp)).trans (by go_simp); have p2 : w'.cell? ⟨w.heap.size, 2, none⟩ = some (.slice none 0 0) := (hb.cell (by simp)).trans (by go_simp); have pf : ∀ i, w'.frozen? ⟨w.heap.size, i, none⟩ = false := fun i => ((Fr.of_below (S := fun _ => False) hb).frozen (p := ⟨w.heap.size, i, none⟩) (by simp) (fun h => h)).trans (by go_simp); have hbb : Below w.heap.size w w' := bl_then bel hb; have q0 : (((w'.setCell ⟨w.heap.size, 0, none⟩ (.int .i64 0)).setCell ⟨w.heap.size, 1, none⟩ (.slice none 0 0)).setCell ⟨w.heap.size, 2, none⟩ (.slice none 0 0)).cell? ⟨w.heap.size, 0, none⟩ = some (.int .i64 0) := (by simp [go_sem, p0, p1, p2]); have q1 : (((w'.setCell ⟨w.heap.size, 0, none⟩ (.int .i64 0)).setCell ⟨w.heap.size, 1, none⟩ (.slice none 0 0)).setCell ⟨w.heap.size, 2, none⟩ (.slice none 0 0)).cell? ⟨w.heap.size, 1, none⟩ = some (.slice none 0 0) := (by simp [go_sem, p0, p1, p2]); have q2 : (((w'.setCell ⟨w.heap.size, 0, none⟩ (.int .i64 0)).setCell ⟨w.heap.size, 1, none⟩ (.slice none 0 0)).setCell ⟨w.heap.size, 2, none⟩ (.slice none 0 0)).cell? ⟨w.heap.size, 2, none⟩ = some (.slice none 0 0) := (by simp [go_sem, p0, p1, p2]))
  refine bodyPost_ret (v := .tuple #[.agg #[.int .i64 0, .slice none 0 0, .slice none 0 0], .bool false]) (by simp [results, Tryz.results7, go_sem, q0, q1, q2]) rfl ⟨rfl, ?_⟩
  exact bl_set (bl_set (bl_set hbb _ (Nat.le_refl _)) _ (Nat.le_refl _)) _ (Nat.le_refl _)
theorem packets0 (x k : Nat) (w : World) (h : Clus w x k) : Calls Tryz.prog 10 #[.pointer (some ⟨x, 0, none⟩)] w fun e w' => e = .returned (.slice none 0 0) ∧ w' = w := by
  obtain ⟨ms, A2, c2, v3, nb, sb, c0, c1, g1, g2, g3, g4, g5, g6⟩ := h
  have b4 : w.cell? ⟨x, 4, none⟩ = some (.pointer (some ⟨nb, 0, none⟩)) := blk_cell g1 4
  go_enter Tryz.func10, Tryz.ntmps10
  go_wp2_with (go_at_call 25; refine (netLen nb _ g5).mono ?_; rintro e w1 ⟨rfl, hw⟩; rw [hw])
  go_loopw [3, 12] (fun u v w' => u = .slice none 0 0 ∧ v = .int .i64 0 ∧ w' = w) (fun _ _ _ => 0)
  case atStart => exact ⟨rfl, rfl, rfl⟩
  case round =>
    obtain ⟨rfl, rfl, rfl⟩ := hrel
    go_wp2
    go_ret
    exact ⟨rfl, rfl⟩
end Go.Proofs.YtijhmlkehpoliaaGreatDoor
