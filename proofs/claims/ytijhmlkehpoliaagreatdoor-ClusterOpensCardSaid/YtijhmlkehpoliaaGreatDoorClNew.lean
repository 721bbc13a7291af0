/- A session, a node, a cluster that are opened. -/
import Derived.Test.YtijhmlkehpoliaaGreatDoorClLog
import Derived.Deep.RegionHeld3
set_option linter.unusedVariables false
set_option linter.unusedSimpArgs false
namespace Go.Proofs.YtijhmlkehpoliaaGreatDoor
open Go.RowKit

/-- A row of cells that lies at b, o, or nothing. -/
theorem cfg_len {xs : List Sp} {sh : Int} (h : cfgOk xs sh = true) : 1 ≤ xs.length ∧ xs.length ≤ 4 ∧ 1 ≤ sh ∧ sh ≤ 8 := by
  unfold cfgOk cfgK at h
  simp only [Bool.and_eq_true] at h
  have h1 := btw_t h.1.1
  have h2 := btw_t h.1.2
  omega

theorem cell_al {W : World} {a : Addr} {v : Value} (o : Obj) (h : W.cell? a = some v) : (W.alloc o).cell? a = some v := cell_kept h (World.grownBy_alloc W o none) (fun r e => by cases e)
theorem two_alloc {n : Nat} {w W : World} {a b : Addr} {v u : Value} (h : W.cell? a = some v ∧ W.cell? b = some u ∧ Below w.heap.size w W ∧ n < W.heap.size) (o : Obj) :
    (W.alloc o).cell? a = some v ∧ (W.alloc o).cell? b = some u ∧ Below w.heap.size w (W.alloc o) ∧ n < (W.alloc o).heap.size :=
  ⟨cell_al _ h.1, cell_al _ h.2.1, bl_alloc h.2.2.1 _, by have := h.2.2.2; simp; omega⟩

set_option maxHeartbeats 1000000 in
theorem sessNew (A : Option Addr) (c : Nat) (xs : List Sp) (sh me : Int) (w : World) (hm : xs.length * 24 ≤ 140737488355328) (hA : SlR w A (xs.flatMap Sp.enc)) :
    Calls Tryz.prog 17 #[.agg #[.slice A xs.length c, .int .i64 sh], .int .i64 me, .int .u64 1] w fun e w' => ∃ a c, e = .returned (.tuple #[.pointer a, c]) ∧ Below w.heap.size w w' := by
  have hmm := @run_makeMap Tryz.prog
  go_enter Tryz.func17, Tryz.ntmps17
  go_wp2_with (go_at_call 36; refine (sefits _ _ _ _).mono ?_; rintro e w' ⟨rfl, rfl⟩)
  next =>
    go_region_held3 (fun W => W.cell? ⟨w.heap.size, 0, none⟩ = some (.slice A xs.length c) ∧ W.cell? ⟨w.heap.size, 1, none⟩ = some (.int .i64 sh) ∧ Below w.heap.size w W ∧ w.heap.size < W.heap.size) (first | exact ⟨by assumption, by assumption, by assumption, by assumption⟩ | exact two_alloc (by assumption) _ | exact two_alloc ⟨by assumption, by assumption, by assumption, by assumption⟩ _ | exact ⟨by go_simp, by go_simp, bel, by simp⟩) (first | (go_at_call 12; obtain ⟨s1, s2, s3, s4⟩ := ‹_ ∧ _ ∧ Below w.heap.size w _ ∧ _›; refine (cloneSp A c xs _ hm (hA.below s3)).mono ?_; rintro e w' ⟨A', c', rfl, hb, hr⟩; have t1 := (hb.cell (p := ⟨w.heap.size, 0, none⟩) s4).trans s1; have t2 := (hb.cell (p := ⟨w.heap.size, 1, none⟩) s4).trans s2; have t3 : Below w.heap.size w w' := bl_then s3 hb; have t4 := Nat.lt_of_lt_of_le s4 hb.size))
    all_goals go_wp2
    all_goals go_ret2
    all_goals exact ⟨_, _, rfl, (‹_ ∧ _ ∧ Below w.heap.size w _ ∧ _›).2.2.1⟩
  all_goals go_ret2
  all_goals exact ⟨_, _, rfl, bel⟩
theorem own_ne {W : World} {base n size b k : Nat} {e t : TypeId} {v : Value} {xs : List Value} {cs : Array Value} {fr : Nat × Nat} (h : W.ownsRow base e size v n xs) (hv : v.ownBlock = some k) (hb : W.heap[b]? = some (.cells cs t fr)) (ht : t ≠ e) : b ≠ k := by
  rintro rfl
  obtain ⟨_, h | ⟨g, cap, d, rfl, _, hg, _⟩⟩ := h
  · obtain ⟨rfl, _⟩ := h; cases hv
  · simp only [Value.ownBlock, Option.map_some, Option.some.injEq] at hv
    subst hv
    rw [hg] at hb
    simp only [Option.some.injEq, Obj.cells.injEq] at hb
    exact ht hb.2.1.symm

/-- What node.Open has at hand: its argument's box, its node with k lists of shards. -/
def NO (w W : World) (bx nb : Nat) (A : Option Addr) (c n : Nat) (sh : Int) (k : Nat) : Prop := ∃ A3 c3 vs cs,
  W.heap[bx]? = some (.cells #[.slice A n c, .int .i64 sh] 24 (0, 0)) ∧ W.heap[nb]? = some (.cells cs 114 (0, 0)) ∧ 5 < cs.size ∧ cs[3]? = some (.slice A3 k c3) ∧
  W.ownsRow w.heap.size 115 1 (.slice A3 k c3) k vs ∧ Below w.heap.size w W ∧ w.heap.size ≤ nb
theorem NO.bl {w W : World} {bx nb c n k : Nat} {A : Option Addr} {sh : Int} (h : NO w W bx nb A c n sh k) : Below w.heap.size w W := by
  obtain ⟨_, _, _, _, _, _, _, _, _, h, _⟩ := h; exact h
theorem NO.fr {S : Nat → Prop} {w W W' : World} {bx nb c n k : Nat} {A : Option Addr} {sh : Int} (h : NO w W bx nb A c n sh k) (hf : Fr S W W') (hS : ∀ i, S i → w.heap.size ≤ i) (h1 : ¬ S bx) (h2 : ¬ S nb)
    (h3 : ∀ i cs, W.heap[i]? = some (.cells cs 115 (0, 0)) → ¬ S i) : NO w W' bx nb A c n sh k := by
  obtain ⟨A3, c3, vs, cs, g1, g2, g3, g4, g5, g6, g7⟩ := h
  refine ⟨A3, c3, vs, cs, hf.blk g1 h1, hf.blk g2 h2, g3, g4, own_fr g5 hf ?_, ?_, g7⟩
  · intro i _ hi
    obtain ⟨_, h | ⟨g, cap, d, e, _, hg, _⟩⟩ := g5
    · rw [h.1] at hi; cases hi
    · rw [e] at hi
      simp only [Value.ownBlock, Option.map_some, Option.some.injEq] at hi
      subst hi
      exact h3 _ _ hg
  · exact g6.trans (hf.below g6.size (fun i hi hs => by have := hS i hs; omega))
theorem NO.below {w W W' : World} {bx nb c n k : Nat} {A : Option Addr} {sh : Int} (h : NO w W bx nb A c n sh k) (hf : Below W.heap.size W W') : NO w W' bx nb A c n sh k :=
  h.fr (S := fun _ => False) (Fr.of_below hf) (fun _ h => h.elim) (fun h => h) (fun h => h) (fun _ _ _ h => h)

theorem checkOk (A : Option Addr) (c : Nat) (xs : List Sp) (sh : Int) (w : World) (hm : xs.length ≤ 9223372036854775807) (hA : SlR w A (xs.flatMap Sp.enc)) (hok : cfgOk xs sh = true) :
    Calls Tryz.prog 11 #[.agg #[.slice A xs.length c, .int .i64 sh]] w fun e w' => e = .returned (.int .i64 0) ∧ Below w.heap.size w w' := by
  refine (nodeCheck A c xs sh w hm hA).mono ?_
  rintro e w' ⟨rfl, hb⟩
  rw [hok]
  exact ⟨rfl, hb⟩
end Go.Proofs.YtijhmlkehpoliaaGreatDoor
