/- Opening a node, a session, a cluster on disks without files. -/
import Derived.Test.YtijhmlkehpoliaaGreatDoorDisk
import Derived.Lib.SliceRun
import Derived.Test.YtijhmlkehpoliaaGreatDoorProg
import Derived.Lib.Hide
set_option linter.unusedVariables false
set_option linter.unusedSimpArgs false
namespace Go.Proofs.YtijhmlkehpoliaaGreatDoor
open Go.RowKit

/-- lo ≤ n ≤ hi. -/
def btw (lo n hi : Int) : Bool := decide (lo ≤ n ∧ n ≤ hi)
theorem btw_t {lo n hi : Int} (h : btw lo n hi = true) : lo ≤ n ∧ n ≤ hi := by simpa [btw] using h
theorem btw_f {lo n hi : Int} (h : btw lo n hi = false) : ¬ (lo ≤ n ∧ n ≤ hi) := by simpa [btw] using h

theorem nfits (n lo hi : Int) (w : World) : Calls Tryz.prog 27 #[.int .i64 n, .int .i64 lo, .int .i64 hi] w fun e w' => e = .returned (.bool (btw lo n hi)) ∧ w = w' := by
  go_enter Tryz.func27, Tryz.ntmps27
  go_wp2
  all_goals go_ret
  all_goals exact ⟨rb (by unfold btw; rw [Bool.eq_iff_iff]; simp <;> omega), rfl⟩

structure Sp where
  ret : Int
  blk : Int
  fut : Int
def Sp.enc (p : Sp) : List Value := [.int .i64 p.ret, .int .i64 p.blk, .int .i64 p.fut]
theorem Sp.enc_len (p : Sp) : p.enc.length = 3 := rfl
theorem sp_at {w : World} {b o : Nat} {xs : List Sp} (h : Row w b o (xs.flatMap Sp.enc)) (k : Nat) (hk : k < xs.length) :
    w.cell? ⟨b, o + k * 3, none⟩ = some (.int .i64 xs[k].ret) ∧ w.cell? ⟨b, o + k * 3 + 1, none⟩ = some (.int .i64 xs[k].blk) ∧ w.cell? ⟨b, o + k * 3 + 2, none⟩ = some (.int .i64 xs[k].fut) :=
  ⟨h.at Sp.enc_len hk (i := 0) (by omega) rfl, h.at Sp.enc_len hk (i := 1) (by omega) rfl, h.at Sp.enc_len hk (i := 2) (by omega) rfl⟩
def Sp.ok (s : Sp) : Bool := btw 1 s.blk 1099511627776 && btw 0 s.ret 1099511627776 && btw 0 s.fut 1099511627776
def cfgK (xs : List Sp) (sh : Int) (k : Nat) : Bool := btw 1 xs.length 4 && btw 1 sh 8 && (xs.take k).all Sp.ok
/-- OK or ErrArg. -/
def errIf (b : Bool) : Int := if b then 0 else 1
def cfgOk (xs : List Sp) (sh : Int) : Bool := cfgK xs sh xs.length
theorem cfgK_succ (xs : List Sp) (sh : Int) (k : Nat) (hk : k < xs.length) : cfgK xs sh (k + 1) = (cfgK xs sh k && xs[k].ok) := by
  unfold cfgK
  rw [List.take_succ_eq_append_getElem hk, List.all_append]
  simp [Bool.and_assoc]

set_option maxHeartbeats 400000 in
theorem nodeCheck (A : Option Addr) (c : Nat) (xs : List Sp) (sh : Int) (w : World) (hm : xs.length ≤ 9223372036854775807) (hA : SlR w A (xs.flatMap Sp.enc)) :
    Calls Tryz.prog 11 #[.agg #[.slice A xs.length c, .int .i64 sh]] w fun e w' => e = .returned (.int .i64 (errIf (cfgOk xs sh))) ∧ Below w.heap.size w w' := by
  go_enter Tryz.func11, Tryz.ntmps11
  go_wp2_with (go_at_call 27; refine (nfits _ _ _ _).mono ?_; rintro e w' ⟨rfl, rfl⟩)
  all_goals
    go_loopw [3, 18] (fun v3 v18 w' => ∃ (k : Nat), k ≤ xs.length ∧ v3 = .bool (cfgK xs sh k) ∧ v18 = .int .i64 k ∧ Hid (Below w.heap.size w w')) (fun _ v18 _ => xs.length - (intOf v18).toNat)
    case atStart => exact ⟨0, by omega, by simp [cfgK, *], rfl, bel⟩
    case round =>
      obtain ⟨k, hk, rfl, rfl, hb⟩ := hrel
      by_cases hlt : k < xs.length
      · obtain ⟨b, o, rfl, hr⟩ := hA.below hb.out (flat_ne Sp.enc_len (by omega) hlt)
        obtain ⟨c0, c1, c2⟩ := sp_at hr k hlt
        have HS := Lib.hid (cfgK_succ xs sh k hlt)
        go_wp2_with (go_at_call 27; refine (nfits _ _ _ _).mono ?_; rintro e w' ⟨rfl, rfl⟩)
        all_goals
          refine ⟨⟨k + 1, by omega, ?_, by go_num, bel⟩, by simp [intOf]; omega⟩
          rw [HS.out]
          simp [Sp.ok, *]
      · go_wp2
        all_goals go_ret
        all_goals
          have : k = xs.length := by omega
          subst this
          exact ⟨ri (by unfold errIf cfgOk; simp_all), bel⟩

theorem infoSp : (Tryz.prog.info? 46).map (fun i => (i.zero, i.size, i.bytes)) = some (some (.agg #[.int .i64 0, .int .i64 0, .int .i64 0]), 3, 24) := by kernel_rfl
theorem sp_one (xs : List Sp) : ∀ u ∈ xs.flatMap Sp.enc, u.oneCell' = true := by
  intro u hu
  obtain ⟨p, _, hp⟩ := List.mem_flatMap.1 hu
  simp only [Sp.enc, List.mem_cons, List.not_mem_nil, or_false] at hp
  rcases hp with rfl | rfl | rfl <;> rfl

set_option maxHeartbeats 400000 in
/-- slices.Clone of spaces. -/
theorem cloneSp (A : Option Addr) (c : Nat) (xs : List Sp) (w : World) (hm : xs.length * 24 ≤ 140737488355328) (hA : SlR w A (xs.flatMap Sp.enc)) :
    Calls Tryz.prog 12 #[.slice A xs.length c] w fun e w' => ∃ A' c', e = .returned (.slice A' xs.length c') ∧ Below w.heap.size w w' ∧ SlR w' A' (xs.flatMap Sp.enc) := by
  have hn := fun (w : World) (a : Option Addr) (n c : Nat) => Lib.run_eql_slice_nil (P := Tryz.prog) w 22 46 a n c 0 0 Tryz.underlying22
  cases A with
  | none =>
    have hx : xs.flatMap Sp.enc = [] := by
      rcases Classical.em (xs.flatMap Sp.enc = []) with h | h
      · exact h
      · obtain ⟨b, o, h', _⟩ := hA h; cases h'
    have h0 : xs = [] := by
      cases xs with
      | nil => rfl
      | cons x xs => simp [Sp.enc] at hx
    subst h0
    go_enter Tryz.func12, Tryz.ntmps12
    go_wp2
    go_ret
    exact ⟨none, 0, rfl, bel, SlR.nil _ _⟩
  | some a =>
    go_enter Tryz.func12, Tryz.ntmps12
    go_wp2_with (at_builtin; refine wpL_app _ rfl _ _ _ _ rfl w.heap.size 46 _ 3 24 Tryz.underlying22 infoSp rfl (by decide) _ 0 [] rfl ⟨by simp, .inr ⟨w.heap.size, 0, #[], rfl, Nat.le_refl _, heap_alloc_new w _, Nat.le_refl _, by decide, rfl, rfl⟩⟩ _ xs.length (xs.flatMap Sp.enc) rfl (Src.of Tryz.underlying22 _ _ _ _ (flat_length Sp.enc_len xs) (by decide) (hA.below bel) (sp_one xs)) (by omega) (by simp) ?_)
    intro A' c' w' ho hg _
    go_wp2
    go_ret
    exact ⟨A', c', rfl, bl_grown bel hg (fun k hk => by simp [Value.ownBlock] at hk; omega), own_read ho⟩

theorem newNet (w : World) : Calls Tryz.prog 13 #[] w fun e w' => e = .returned (.pointer (some ⟨w.heap.size, 0, none⟩)) ∧ w' = w.alloc (.cells #[.slice none 0 0] 96) := by
  go_enter Tryz.func13, Tryz.ntmps13
  go_wp2
  go_ret
  exact ⟨rfl, rfl⟩

/-- A disk without files. -/
def Disk0 (w : World) (p : Nat) : Prop := ∃ d : DS, DkC w p d ∧ MapT SK w d.fb [] ∧ d.room = d.room
theorem Disk0.fr {S : Nat → Prop} {w w' : World} {p : Nat} (h : Disk0 w p) (hf : Fr S w w') (hs : ∀ k, ¬ S k) : Disk0 w' p := by
  obtain ⟨d, h1, h2, h3⟩ := h
  exact ⟨d, h1.fr hf (hs _), h2.fr hf (hs _), h3⟩
theorem Disk0.below {w w' : World} {p : Nat} (h : Disk0 w p) (hf : Below w.heap.size w w') : Disk0 w' p := h.fr (S := fun _ => False) (Fr.of_below hf) (fun _ h => h)

theorem newDisk (room : Int) (w : World) : Calls Tryz.prog 15 #[.int .i64 room] w fun e w' => ∃ p, e = .returned (.pointer (some ⟨p, 0, none⟩)) ∧ w.heap.size ≤ p ∧ p < w'.heap.size ∧ Disk0 w' p ∧ Below w.heap.size w w' := by
  have hmm := @run_makeMap Tryz.prog
  go_enter Tryz.func15, Tryz.ntmps15
  go_wp2
  all_goals go_ret
  all_goals
    have m1 := MapT.made (K := strKT (P := Tryz.prog) Tryz.underlying9) w
    refine ⟨_, rfl, by omega, by simp, ⟨⟨_, 0, w.heap.size, _, _, 0, -1, 0, 0, false⟩, new_at (by simp), (m1.fr (Fr.of_below (S := fun _ => False) ?_) (fun h => h)), rfl⟩, bel⟩
    exact ((Below.refl _ _).alloc (Nat.le_refl _) _).alloc (by simp) _

/-- A disk without files has no file. -/
theorem read0 (p : Nat) (w : World) (x : ByteArray) (hd : Disk0 w p) (hx : x.size ≤ maxLen) :
    Calls Tryz.prog 28 #[.pointer (some ⟨p, 0, none⟩), .string x] w fun e w' => e = .returned (.tuple #[.string ByteArray.empty, .bool false]) ∧ w' = w := by
  obtain ⟨d, h1, h2, _⟩ := hd
  refine (read_calls p d [] w x h1 ⟨h2, by simp⟩ hx).mono ?_
  rintro e w' ⟨⟨v, hv, _⟩ | ⟨_, rfl⟩, rfl⟩
  · cases hv
  · exact ⟨rfl, rfl⟩
theorem names0 (p : Nat) (w : World) (hd : Disk0 w p) :
    Calls Tryz.prog 74 #[.pointer (some ⟨p, 0, none⟩)] w fun e w' => ∃ A c, e = .returned (.slice A 0 c) ∧ Below w.heap.size w w' := by
  obtain ⟨d, h1, h2, _⟩ := hd
  refine (names_calls p d [] w h1 h2 (by simp)).mono ?_
  rintro e w' ⟨A, c, rfl, _, hb⟩
  exact ⟨A, c, rfl, hb⟩
end Go.Proofs.YtijhmlkehpoliaaGreatDoor
