/- The reference opens a store, a log, a shard, a session. -/
import Derived.Test.YtijhmlkehpoliaaGreatDoorClCluster
import Derived.Deep.QuietTactic
import Derived.BigQuiet
set_option linter.unusedVariables false
set_option linter.unusedSimpArgs false
namespace Go.Proofs.YtijhmlkehpoliaaGreatDoor
open Go.RowKit

theorem rfits (n lo hi : Int) (w : World) : Calls Tryz.prog 22 #[.int .i64 n, .int .i64 lo, .int .i64 hi] w fun e w' => e = .returned (.bool (btw lo n hi)) ∧ w = w' := by
  go_enter Tryz.func22, Tryz.ntmps22
  go_wp2
  all_goals go_ret
  all_goals exact ⟨rb (by unfold btw; rw [Bool.eq_iff_iff]; simp <;> omega), rfl⟩
theorem rsfits (n lo hi : Int) (w : World) : Calls Tryz.prog 61 #[.int .i64 n, .int .i64 lo, .int .i64 hi] w fun e w' => e = .returned (.bool (btw lo n hi)) ∧ w = w' := by
  go_enter Tryz.func61, Tryz.ntmps61
  go_wp2
  all_goals go_ret
  all_goals exact ⟨rb (by unfold btw; rw [Bool.eq_iff_iff]; simp <;> omega), rfl⟩
theorem rsefits (n lo hi : Int) (w : World) : Calls Tryz.prog 45 #[.int .i64 n, .int .i64 lo, .int .i64 hi] w fun e w' => e = .returned (.bool (btw lo n hi)) ∧ w = w' := by
  go_enter Tryz.func45, Tryz.ntmps45
  go_wp2
  all_goals go_ret
  all_goals exact ⟨rb (by unfold btw; rw [Bool.eq_iff_iff]; simp <;> omega), rfl⟩

theorem cfgK_mono {xs : List Sp} {sh : Int} {k : Nat} (h : cfgK xs sh k = false) : cfgOk xs sh = false := by
  unfold cfgOk cfgK at *
  cases h1 : btw 1 (xs.length : Int) 4 <;> cases h2 : btw 1 sh 8 <;> simp_all
  obtain ⟨x, hx, hf⟩ := h
  exact ⟨x, List.mem_of_mem_take hx, hf⟩
set_option maxHeartbeats 400000 in
theorem refCheck (A : Option Addr) (c : Nat) (xs : List Sp) (sh : Int) (w : World) (hm : xs.length ≤ 9223372036854775807) (hA : SlR w A (xs.flatMap Sp.enc)) :
    Calls Tryz.prog 6 #[.agg #[.slice A xs.length c, .int .i64 sh]] w fun e w' => e = .returned (.int .i64 (errIf (cfgOk xs sh))) ∧ Below w.heap.size w w' := by
  go_enter Tryz.func6, Tryz.ntmps6
  go_wp2_with (go_at_call 22; refine (rfits _ _ _ _).mono ?_; rintro e w' ⟨rfl, rfl⟩)
  all_goals first
    | (go_ret; exact ⟨ri (by unfold errIf cfgOk cfgK; simp_all), bel⟩)
    | skip
  have hk0 : cfgK xs sh 0 = true := by unfold cfgK; simp_all
  have hb8 : btw 1 sh 8 = true := by simp_all
  simp only [hb8]
  go_loopw [3] (fun v3 w' => ∃ k : Nat, k ≤ xs.length ∧ v3 = .int .i64 k ∧ cfgK xs sh k = true ∧ Hid (Below (w.alloc (.cells #[.slice A xs.length c, .int .i64 sh] 24)).heap.size (w.alloc (.cells #[.slice A xs.length c, .int .i64 sh] 24)) w')) (fun v3 _ => xs.length - (intOf v3).toNat)
  case atStart => exact ⟨0, by omega, rfl, hk0, Below.refl _ _⟩
  case round =>
    obtain ⟨k, hk, rfl, hck, hb⟩ := hrel
    have b0 : wr.cell? ⟨w.heap.size, 0, none⟩ = some (.slice A xs.length c) := (hb.out.cell (by simp)).trans (by go_simp)
    have hws : w.heap.size < wr.heap.size := by have := hb.out.size; simp at this; omega
    by_cases hlt : k < xs.length
    · obtain ⟨b, o, rfl, hr⟩ := (hA.below (bl_alloc (Below.refl _ _) _)).below hb.out (flat_ne Sp.enc_len (by omega) hlt)
      obtain ⟨c0, c1, c2⟩ := sp_at hr k hlt
      have HS := Lib.hid (cfgK_succ xs sh k hlt)
      go_wp2_with (go_at_call 22; refine (rfits _ _ _ _).mono ?_; rintro e w' ⟨rfl, rfl⟩)
      all_goals first
        | (go_ret
           have hf : cfgOk xs sh = false := cfgK_mono (k := k + 1) (by rw [HS.out]; simp_all [Sp.ok])
           exact ⟨ri (by rw [hf]; rfl), bl_then (bl_alloc (Below.refl _ _) _) (bl_alloc hb.out _)⟩)
        | (refine ⟨?_, ?measure⟩
           repeat apply Exists.intro
           refine ⟨?rel, rfl⟩
           case measure => simp [intOf]; omega
           case rel => exact ⟨k + 1, by omega, by go_num, by rw [HS.out]; simp_all [Sp.ok], bl_alloc hb.out _⟩)
    · go_wp2
      all_goals go_ret
      all_goals
        have : k = xs.length := by omega
        subst this
        exact ⟨ri (by unfold errIf cfgOk; simp_all), bl_then (bl_alloc (Below.refl _ _) _) hb.out⟩

/-- The reference's disk without files. -/
def RD0 (w : World) (p : Nat) : Prop := ∃ room, w.heap[p]? = some (.cells #[.int .i64 room, .slice none 0 0, .slice none 0 0, .int .i64 0, .bool false, .int .i64 0, .int .i64 0, .int .i64 0, .bool false] 138 (0, 0))
theorem RD0.below {w w' : World} {p : Nat} (h : RD0 w p) (hf : Below w.heap.size w w') : RD0 w' p := by
  obtain ⟨q, h⟩ := h; exact ⟨q, (Fr.of_below (S := fun _ => False) hf).blk h (fun h => h)⟩
theorem rNew (room : Int) (w : World) : Calls Tryz.prog 19 #[.int .i64 room] w fun e w' => ∃ p, e = .returned (.pointer (some ⟨p, 0, none⟩)) ∧ RD0 w' p ∧ Below w.heap.size w w' := by
  go_enter Tryz.func19, Tryz.ntmps19
  go_wp2
  all_goals go_ret
  all_goals exact ⟨_, rfl, ⟨_, new_at rfl⟩, bel⟩
theorem rFiles (p : Nat) (w : World) (h : RD0 w p) : Calls Tryz.prog 57 #[.pointer (some ⟨p, 0, none⟩)] w fun e w' => e = .returned (.slice none 0 0) ∧ w' = w := by
  obtain ⟨room, h⟩ := h
  have b1 : w.cell? ⟨p, 1, none⟩ = some (.slice none 0 0) := blk_cell h 1
  have b2 : w.cell? ⟨p, 2, none⟩ = some (.slice none 0 0) := blk_cell h 2
  go_enter Tryz.func57, Tryz.ntmps57
  go_wp2
  go_loopw [3, 4] (fun u v w' => u = .slice none 0 0 ∧ v = .int .i64 0 ∧ w' = w) (fun _ _ _ => 0)
  case atStart => exact ⟨rfl, rfl, rfl⟩
  case round =>
    obtain ⟨rfl, rfl, rfl⟩ := hrel
    go_wp2
    go_ret
    exact ⟨rfl, rfl⟩
theorem rFind (x : ByteArray) (w : World) : Calls Tryz.prog 58 #[.slice none 0 0, .string x] w fun e w' => e = .returned (.tuple #[.int .i64 0, .bool false]) ∧ Below w.heap.size w w' := by
  go_enter Tryz.func58, Tryz.ntmps58
  go_wp2
  go_loopw [6] (fun v w' => v = .int .i64 0 ∧ w' = w) (fun _ _ => 0)
  case atStart => exact ⟨rfl, rfl⟩
  case round =>
    obtain ⟨rfl, rfl⟩ := hrel
    go_wp2
    go_quiet (fail)
    go_wp2
    go_ret2
    exact ⟨rfl, bel⟩
theorem rRead (p : Nat) (x : ByteArray) (w : World) (h : RD0 w p) : Calls Tryz.prog 37 #[.pointer (some ⟨p, 0, none⟩), .string x] w fun e w' => e = .returned (.tuple #[.string ByteArray.empty, .bool false]) ∧ Below w.heap.size w w' := by
  go_enter Tryz.func37, Tryz.ntmps37
  go_wp2_with (first | (go_at_call 57; refine (rFiles p _ h).mono ?_; rintro e w' ⟨rfl, rfl⟩) | (go_at_call 58; refine (rFind _ _).mono ?_; rintro e w' ⟨rfl, hb⟩))
  go_ret2
  exact ⟨rfl, bel⟩
theorem r15Open (p : Nat) (w : World) (h : RD0 w p) : Calls Tryz.prog 18 #[.pointer (some ⟨p, 0, none⟩)] w fun e w' => ∃ q, e = .returned (.pointer (some q)) ∧ Below w.heap.size w w' := by
  go_enter Tryz.func18, Tryz.ntmps18
  go_wp2_with (go_at_call 37; refine (rRead p _ _ (h.below bel)).mono ?_; rintro e w' ⟨rfl, hb⟩)
  go_ret
  exact ⟨_, rfl, bl_then bel hb⟩
theorem r09Numbers (p : Nat) (w : World) (h : RD0 w p) : Calls Tryz.prog 41 #[.pointer (some ⟨p, 0, none⟩)] w fun e w' => ∃ A c, e = .returned (.slice A 0 c) ∧ Below w.heap.size w w' := by
  go_enter Tryz.func41, Tryz.ntmps41
  go_wp2_with (go_at_call 57; refine (rFiles p _ (h.below bel)).mono ?_; rintro e w' ⟨rfl, rfl⟩)
  go_loopw [3, 5] (fun u v w' => u = .slice (some ⟨w.heap.size, 0, none⟩) 0 0 ∧ v = .int .i64 0 ∧ w' = w.alloc (.cells #[] 3)) (fun _ _ _ => 0)
  case atStart => exact ⟨rfl, rfl, rfl⟩
  case round =>
    obtain ⟨rfl, rfl, hw⟩ := hrel
    go_wp2
    go_ret
    exact ⟨_, _, rfl, bel⟩
set_option maxHeartbeats 400000 in
theorem r09Open (p : Nat) (w : World) (h : RD0 w p) : Calls Tryz.prog 40 #[.pointer (some ⟨p, 0, none⟩)] w fun e w' => ∃ q A c, e = .returned (.tuple #[.pointer q, .slice A 0 c]) ∧ Below w.heap.size w w' := by
  go_enter Tryz.func40, Tryz.ntmps40
  go_wp2_with (go_at_call 41; refine (r09Numbers p _ (h.below bel)).mono ?_; rintro e U ⟨A, c, rfl, hb⟩)
  have hB : Below w.heap.size w U := bl_then bel hb
  go_loopw [4, 6, 7] (fun a b v w' => a = .slice (some ⟨w.heap.size, 0, none⟩) 0 0 ∧ b = .int .i64 1 ∧ v = .int .i64 0 ∧ w' = U) (fun _ _ _ _ => 0)
  case atStart => exact ⟨rfl, rfl, rfl, rfl⟩
  case round =>
    obtain ⟨rfl, rfl, rfl, rfl⟩ := hrel
    go_wp2
    go_ret2
    exact ⟨_, _, _, rfl, bel⟩
theorem r12Open (p : Nat) (i k : Int) (s : Sp) (w : World) : Calls Tryz.prog 39 #[.pointer (some ⟨p, 0, none⟩), .int .i64 i, .int .i64 k, .agg #[.int .i64 s.ret, .int .i64 s.blk, .int .i64 s.fut]] w fun e w' => ∃ a c, e = .returned (.tuple #[.pointer a, c]) ∧ Below w.heap.size w w' := by
  go_enter Tryz.func39, Tryz.ntmps39
  go_wp2_with (go_at_call 61; refine (rsfits _ _ _ _).mono ?_; rintro e w' ⟨rfl, rfl⟩)
  all_goals go_ret2
  all_goals exact ⟨_, _, rfl, bel⟩
theorem r21New (A : Option Addr) (c : Nat) (n : Nat) (sh me : Int) (w : World) : Calls Tryz.prog 21 #[.agg #[.slice A n c, .int .i64 sh], .int .i64 me, .int .u64 1] w fun e w' => ∃ a c, e = .returned (.tuple #[.pointer a, c]) ∧ Below w.heap.size w w' := by
  go_enter Tryz.func21, Tryz.ntmps21
  go_wp2_with (go_at_call 45; refine (rsefits _ _ _ _).mono ?_; rintro e w' ⟨rfl, rfl⟩)
  all_goals try go_ret2
  all_goals first | exact ⟨_, _, rfl, bel⟩ | go_outline
end Go.Proofs.YtijhmlkehpoliaaGreatDoor
