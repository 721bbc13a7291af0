/- ClusterOpens: the law's own walk. -/
import Derived.Test.YtijhmlkehpoliaaGreatDoorClRead
import Derived.Test.YtijhmlkehpoliaaGreatDoorClRefC
set_option linter.unusedVariables false
set_option linter.unusedSimpArgs false
namespace Go.Proofs.YtijhmlkehpoliaaGreatDoor
open Go.RowKit

set_option maxHeartbeats 2000000 in
theorem opensBig (A : Option Addr) (c n : Nat) (sh nodes sess room : Int) (w : World) (hm : n ≤ 9223372036854775807) (hbig : 256 < n) :
    Calls Tryz.prog 3 #[.agg #[.slice A n c, .int .i64 sh], .int .i64 nodes, .int .i64 sess, .int .i64 room] w fun e w' => e = .returned (.bool true) ∧ Below w.heap.size w w' := by
  go_enter Tryz.func3, Tryz.ntmps3
  go_wp2_with (go_at_call 4; exfalso; omega)
  go_ret
  exact ⟨rfl, bel⟩

set_option maxHeartbeats 2000000 in
theorem opensNo (A : Option Addr) (c : Nat) (xs : List Sp) (sh nodes sess room : Int) (w : World) (hm : xs.length ≤ 256) (hA : SlR w A (xs.flatMap Sp.enc)) (hno : clOk xs sh nodes sess = false) :
    Calls Tryz.prog 3 #[.agg #[.slice A xs.length c, .int .i64 sh], .int .i64 nodes, .int .i64 sess, .int .i64 room] w fun e w' => e = .returned (.bool true) ∧ Below w.heap.size w w' := by
  go_enter Tryz.func3, Tryz.ntmps3
  go_wp2_with (first | (go_at_call 4; refine (clNewNo A c xs sh nodes sess room _ (by omega) (hA.below bel) hno).mono ?_; rintro e W1 ⟨rfl, hB1⟩; have bb0 : W1.cell? ⟨w.heap.size, 0, none⟩ = some (.slice A xs.length c) := (hB1.cell (by simp)).trans (by go_simp); have bb1 : W1.cell? ⟨w.heap.size, 1, none⟩ = some (.int .i64 sh) := (hB1.cell (by simp)).trans (by go_simp); have bbl : w.heap.size < W1.heap.size := (by have := hB1.size; simp at this; omega); have hA1 : SlR W1 A (xs.flatMap Sp.enc) := hA.below (bl_then bel hB1)) | (go_at_call 5; refine (rClNewNo A c xs sh nodes sess room _ (by omega) hA1 hno).mono ?_; rintro e W2 ⟨rfl, hB2⟩; have hB3 := hB1.trans (hB2.mono hB1.size); have cc0 := (hB2.cell (p := ⟨w.heap.size, 0, none⟩) bbl).trans bb0; have cc1 := (hB2.cell (p := ⟨w.heap.size, 1, none⟩) bbl).trans bb1) | (go_at_call 6; refine (refCheck A c xs sh _ (by omega) (hA1.below hB2)).mono ?_; rintro e W3 ⟨rfl, hB4⟩))
  all_goals go_ret
  all_goals exact ⟨rfl, bl_then (bl_alloc (Below.refl _ _) _) (bl_then hB3 hB4)⟩

set_option maxHeartbeats 2000000 in
theorem opensYes (A : Option Addr) (c : Nat) (xs : List Sp) (sh : Int) (nodes sess : Nat) (room : Int) (w : World) (hA : SlR w A (xs.flatMap Sp.enc)) (hok : clOk xs sh nodes sess = true) :
    Calls Tryz.prog 3 #[.agg #[.slice A xs.length c, .int .i64 sh], .int .i64 nodes, .int .i64 sess, .int .i64 room] w fun e w' => e = .returned (.bool true) ∧ Below w.heap.size w w' := by
  obtain ⟨hcfg, h3, h4⟩ : cfgOk xs sh = true ∧ btw 3 nodes 8 = true ∧ btw 1 sess 4 = true := by simpa [clOk, Bool.and_eq_true] using hok
  have hl := cfg_len hcfg
  have h3' := btw_t h3
  go_enter Tryz.func3, Tryz.ntmps3
  go_wp2_with (first | (go_at_call 4; refine (clNew A c xs sh nodes sess room _ (hA.below bel) hok).mono ?_; rintro e W1 ⟨x, rfl, hx1, hB1⟩; have bb0 : W1.cell? ⟨w.heap.size, 0, none⟩ = some (.slice A xs.length c) := (hB1.cell (by simp)).trans (by go_simp); have bb1 : W1.cell? ⟨w.heap.size, 1, none⟩ = some (.int .i64 sh) := (hB1.cell (by simp)).trans (by go_simp); have bbl : w.heap.size < W1.heap.size := (by have := hB1.size; simp at this; omega); have hA1 : SlR W1 A (xs.flatMap Sp.enc) := hA.below (bl_then bel hB1)) | (go_at_call 5; refine (rClNew A c xs sh nodes sess room _ hA1 hok).mono ?_; rintro e W2 ⟨y, rfl, hB2⟩; have hB3 := hB1.trans (hB2.mono hB1.size); have cc0 := (hB2.cell (p := ⟨w.heap.size, 0, none⟩) bbl).trans bb0; have cc1 := (hB2.cell (p := ⟨w.heap.size, 1, none⟩) bbl).trans bb1) | (go_at_call 6; refine (refCheckOk A c xs sh _ (by omega) (hA1.below hB2) hcfg).mono ?_; rintro e W3 ⟨rfl, hB4⟩; have hx3 := (hx1.below hB2).below hB4; have hB5 : Below w.heap.size w W3 := bl_then (bl_alloc (Below.refl _ _) _) (bl_then hB3 hB4)) | (go_at_call 7; refine (place0 x nodes _ hx3).mono ?_; rintro e W4 ⟨rfl, hB6⟩; have hx4 := hx3.below hB6; have hB7 := bl_then hB5 hB6))
  go_loopw [15] (fun v W => ∃ i : Nat, i ≤ nodes ∧ v = .int .i64 i ∧ Clus W x nodes ∧ Hid (Below w.heap.size w W)) (fun v _ => nodes - (intOf v).toNat)
  case atStart => exact ⟨0, by omega, rfl, hx4.below bel, bl_alloc hB7 _⟩
  case round =>
    obtain ⟨i, hi, rfl, hx, hB⟩ := hrel
    by_cases hlt : i < nodes
    · go_wp2_with (first | (go_at_call 8; refine (upIn x nodes i _ hx hlt (by omega)).mono ?_; rintro e W5 ⟨rfl, hw⟩; rw [hw]) | (go_at_call 9; refine (clockIn x nodes i _ hx hlt (by omega)).mono ?_; rintro e W5 ⟨rfl, hw⟩; rw [hw]))
      exact ⟨⟨i + 1, by omega, by go_num, hx, hB⟩, by simp [intOf]; omega⟩
    · have hie : i = nodes := by omega
      subst hie
      go_wp2_with (first | (go_at_call 8; refine (upOut x i _ hx).mono ?_; rintro e W5 ⟨rfl, hw⟩; rw [hw]) | (go_at_call 10; refine (packets0 x i _ hx).mono ?_; rintro e W5 ⟨rfl, hw⟩; rw [hw]))
      go_ret
      exact ⟨rfl, hB.out⟩

/-- ClusterOpens answers true, whatever it is asked. -/
theorem opens (A : Option Addr) (c : Nat) (xs : List Sp) (sh nodes sess room : Int) (w : World) (hm : xs.length ≤ 9223372036854775807) (hA : SlR w A (xs.flatMap Sp.enc)) :
    Calls Tryz.prog 3 #[.agg #[.slice A xs.length c, .int .i64 sh], .int .i64 nodes, .int .i64 sess, .int .i64 room] w fun e w' => e = .returned (.bool true) ∧ Below w.heap.size w w' := by
  by_cases hb : 256 < xs.length
  · exact opensBig A c _ sh nodes sess room w hm hb
  · cases h : clOk xs sh nodes sess with
    | false => exact opensNo A c xs sh nodes sess room w (by omega) hA h
    | true =>
      have h2 : btw 3 nodes 8 = true ∧ btw 1 sess 4 = true := by
        simp only [clOk, Bool.and_eq_true] at h; exact h.2
      obtain ⟨n, rfl⟩ := Int.eq_ofNat_of_zero_le (show 0 ≤ nodes by have := btw_t h2.1; omega)
      obtain ⟨m, rfl⟩ := Int.eq_ofNat_of_zero_le (show 0 ≤ sess by have := btw_t h2.2; omega)
      exact opensYes A c xs sh n m room w hA h
end Go.Proofs.YtijhmlkehpoliaaGreatDoor
