/- Words shared by this seat's texts: worlds that differ in a set of blocks, slices that are read, maps as lists of entries. -/
import Derived.WalkKit
import Derived.WalkLawsBesides
import Derived.WalkSpells
import Derived.Maps.RangeRun
import Derived.Maps.Keyed
import Derived.Maps.AppendAt
import Derived.Deep.LoopGhost
import Derived.Deep.DeepCutAuto
import Derived.Deep.QuietTactic
import Derived.BigQuiet
set_option linter.unusedVariables false
set_option linter.unusedSimpArgs false
namespace Go.Proofs.YtijhmlkehpoliaaGreatDoor
open Go.RowKit

/-- w' is w but for the blocks in S, and new ones. -/
structure Fr (S : Nat → Prop) (w w' : World) : Prop where
  os : w'.os = w.os
  tape : w'.tape = w.tape
  output : w'.output = w.output
  size : w.heap.size ≤ w'.heap.size
  block : ∀ k, k < w.heap.size → ¬ S k → w'.heap[k]? = w.heap[k]?

theorem Fr.refl (S : Nat → Prop) (w : World) : Fr S w w := ⟨rfl, rfl, rfl, Nat.le_refl _, fun _ _ _ => rfl⟩
theorem Fr.trans {S T : Nat → Prop} {a b c : World} (h : Fr S a b) (k : Fr T b c) (hT : ∀ i, i < a.heap.size → T i → S i) : Fr S a c :=
  ⟨k.os.trans h.os, k.tape.trans h.tape, k.output.trans h.output, Nat.le_trans h.size k.size, fun i hi hn =>
    (k.block i (Nat.lt_of_lt_of_le hi h.size) (fun ht => hn (hT i hi ht))).trans (h.block i hi hn)⟩
theorem Fr.mono {S T : Nat → Prop} {a b : World} (h : Fr S a b) (hT : ∀ i, i < a.heap.size → S i → T i) : Fr T a b :=
  ⟨h.os, h.tape, h.output, h.size, fun i hi hn => h.block i hi (fun hs => hn (hT i hi hs))⟩
theorem Fr.of_below {S : Nat → Prop} {w w' : World} (h : Below w.heap.size w w') : Fr S w w' := ⟨h.os, h.tape, h.output, h.size, fun k hk _ => h.block k hk⟩
theorem Fr.below {S : Nat → Prop} {w w' : World} {B : Nat} (h : Fr S w w') (hB : B ≤ w.heap.size) (hS : ∀ i, i < B → ¬ S i) : Below B w w' :=
  ⟨h.os, h.tape, h.output, h.size, fun k hk => h.block k (Nat.lt_of_lt_of_le hk hB) (hS k hk)⟩
theorem Fr.then_below {S : Nat → Prop} {a b c : World} (h : Fr S a b) (k : Below b.heap.size b c) : Fr S a c := h.trans (T := fun _ => False) (Fr.of_below k) (fun _ _ h => h.elim)
theorem Fr.alloc {S : Nat → Prop} {a w : World} (h : Fr S a w) (o : Obj) : Fr S a (w.alloc o) := h.then_below ((Below.refl _ w).alloc (Nat.le_refl _) o)
theorem Fr.drew {S : Nat → Prop} {a w : World} (h : Fr S a w) : Fr S a w.drew := ⟨h.os, h.tape, h.output, h.size, h.block⟩
theorem Fr.drewN {S : Nat → Prop} {a w : World} (h : Fr S a w) (n : Nat) : Fr S a (w.drewN n) := ⟨h.os, h.tape, h.output, h.size, h.block⟩
theorem Fr.setCell {S : Nat → Prop} {a w : World} (h : Fr S a w) {p : Addr} (hp : a.heap.size ≤ p.block ∨ S p.block) (u : Value) : Fr S a (w.setCell p u) :=
  h.trans (T := fun i => i = p.block) ⟨rfl, rfl, rfl, by simp [World.setCell], fun k _ hk => Below.heap_setCell _ _ _ _ hk⟩ (fun i hi e => by subst e; exact hp.resolve_left (by omega))
theorem Fr.putObj {S : Nat → Prop} {a w : World} (h : Fr S a w) {b : Nat} (hp : a.heap.size ≤ b ∨ S b) (o : Obj) : Fr S a (ChangeMaps.setBlock w b o) :=
  h.trans (T := fun i => i = b) ⟨rfl, rfl, rfl, by simp [ChangeMaps.setBlock], fun k _ hk => by simp [ChangeMaps.setBlock, Array.getElem?_setIfInBounds, Ne.symm hk]⟩ (fun i hi e => by subst e; exact hp.resolve_left (by omega))
theorem Fr.grown {S : Nat → Prop} {a w w' : World} {row : Option Nat} (h : Fr S a w) (hg : w.grownBy w' row) (hr : ∀ k, row = some k → a.heap.size ≤ k ∨ S k) : Fr S a w' :=
  h.trans (T := fun i => some i = row) ⟨hg.os, hg.tape, hg.output, hg.size, fun k hk hn => hg.block k hk hn⟩ (fun i hi e => (hr i e.symm).resolve_left (by omega))
theorem Fr.cell {S : Nat → Prop} {w w' : World} (h : Fr S w w') {p : Addr} (hs : ¬ S p.block) {v : Value} (hc : w.cell? p = some v) : w'.cell? p = some v :=
  (World.cell?_of_block (w := w) (h.block p.block (World.block_lt_of_cell? w p hc) hs)).trans hc
theorem lt_of_blk {w : World} {b : Nat} {o : Obj} (h : w.heap[b]? = some o) : b < w.heap.size := (Array.getElem?_eq_some_iff.1 h).1
theorem Fr.blk {S : Nat → Prop} {w w' : World} (h : Fr S w w') {b : Nat} {o : Obj} (hb : w.heap[b]? = some o) (hs : ¬ S b) : w'.heap[b]? = some o :=
  (h.block b (lt_of_blk hb) hs).trans hb
theorem Fr.frozen {S : Nat → Prop} {w w' : World} (h : Fr S w w') {p : Addr} (hb : p.block < w.heap.size) (hs : ¬ S p.block) : w'.frozen? p = w.frozen? p := World.frozen?_of_block (w := w) (h.block p.block hb hs)
theorem blk_cell {w : World} {g : Nat} {t : TypeId} {cs : Array Value} {fr : Nat × Nat} (h : w.heap[g]? = some (.cells cs t fr)) (i : Nat) : w.cell? ⟨g, i, none⟩ = cs[i]? := cell_of_row w g i cs t fr h
theorem blk_frozen {w : World} {g : Nat} {t : TypeId} {cs : Array Value} (h : w.heap[g]? = some (.cells cs t (0, 0))) (i : Nat) : w.frozen? ⟨g, i, none⟩ = false := by simp [World.frozen?, h]

/-- The value v is a slice of n elements over the cells cs. -/
def Sl (w : World) (v : Value) (n : Nat) (cs : List Value) : Prop :=
  ∃ A c, v = .slice A n c ∧ n ≤ c ∧ n ≤ 9223372036854775807 ∧ (0 < n → ∃ b o, A = some ⟨b, o, none⟩ ∧ ∀ j u, cs[j]? = some u → w.cell? ⟨b, o + j, none⟩ = some u)
theorem add_pl (b o j : Nat) : (⟨b, o, none⟩ : Addr).add j = ⟨b, o + j, none⟩ := by unfold Addr.add; split <;> simp_all
/-- The cells of a slice that is not empty. -/
def Row (w : World) (b o : Nat) (cs : List Value) : Prop := ∀ j u, cs[j]? = some u → w.cell? ⟨b, o + j, none⟩ = some u
theorem Row.fr {S : Nat → Prop} {w w' : World} {b o : Nat} {cs : List Value} (h : Row w b o cs) (hf : Fr S w w') (hs : ¬ S b) : Row w' b o cs := fun j u hj => hf.cell hs (h j u hj)
theorem Row.below {w w' : World} {b o : Nat} {cs : List Value} (h : Row w b o cs) (hf : Below w.heap.size w w') : Row w' b o cs := h.fr (S := fun _ => False) (Fr.of_below hf) (fun h => h)

theorem Row.fr' {S : Nat → Prop} {w w' : World} {b o : Nat} {cs : List Value} (h : Row w b o cs) (hf : Fr S w w') (hs : b < w.heap.size → ¬ S b) : Row w' b o cs := fun j u hj => hf.cell (hs (World.block_lt_of_cell? w _ (h j u hj))) (h j u hj)
/-- A is the address of cells that read cs, if there are any. -/
def SlR (w : World) (A : Option Addr) (cs : List Value) : Prop := cs ≠ [] → ∃ b o, A = some ⟨b, o, none⟩ ∧ Row w b o cs
theorem SlR.below {w w' : World} {A : Option Addr} {cs : List Value} (h : SlR w A cs) (hf : Below w.heap.size w w') : SlR w' A cs := fun hc => by
  obtain ⟨b, o, e, hr⟩ := h hc; exact ⟨b, o, e, hr.below hf⟩
theorem SlR.nil (w : World) (A : Option Addr) : SlR w A [] := fun h => absurd rfl h
/-- Flat elements of s cells each. -/
theorem flat_at {α : Type} {enc : α → List Value} {s : Nat} (hs : ∀ x, (enc x).length = s) : ∀ (xs : List α) (k : Nat) (hk : k < xs.length) (i : Nat), i < s → (xs.flatMap enc)[k * s + i]? = (enc xs[k])[i]?
  | [], k, hk, i, hi => by simp at hk
  | x :: xs, 0, hk, i, hi => by
    rw [List.flatMap_cons, Nat.zero_mul, Nat.zero_add, List.getElem?_append_left (by rw [hs]; exact hi)]; rfl
  | x :: xs, k + 1, hk, i, hi => by
    rw [List.flatMap_cons, List.getElem?_append_right (by rw [hs, Nat.succ_mul]; omega), hs, show (k + 1) * s + i - s = k * s + i by rw [Nat.succ_mul]; omega]
    exact flat_at hs xs k (by simpa using hk) i hi
theorem flat_ne {α : Type} {enc : α → List Value} {s : Nat} (hs : ∀ x, (enc x).length = s) (h0 : 0 < s) {xs : List α} {k : Nat} (hk : k < xs.length) : xs.flatMap enc ≠ [] := by
  intro h
  have := flat_at hs xs k hk 0 h0
  rw [h] at this
  have h2 : 0 < (enc xs[k]).length := by rw [hs]; exact h0
  rw [List.getElem?_eq_getElem h2] at this
  simp at this
theorem Row.at {α : Type} {enc : α → List Value} {s : Nat} {w : World} {b o : Nat} {xs : List α} (h : Row w b o (xs.flatMap enc)) (hs : ∀ x, (enc x).length = s) {k : Nat} (hk : k < xs.length) {i : Nat} (hi : i < s) {u : Value} (hu : (enc xs[k])[i]? = some u) :
    w.cell? ⟨b, o + (k * s + i), none⟩ = some u := h _ _ ((flat_at hs xs k hk i hi).trans hu)
theorem flat_length {α : Type} {enc : α → List Value} {s : Nat} (hs : ∀ x, (enc x).length = s) : ∀ xs : List α, (xs.flatMap enc).length = xs.length * s
  | [] => by simp
  | x :: xs => by rw [List.flatMap_cons, List.length_append, hs, flat_length hs xs, List.length_cons, Nat.succ_mul]; omega

theorem new_at {w : World} {o : Obj} {b : Nat} (h : b = w.heap.size) : (w.alloc o).heap[b]? = some o := by subst h; exact heap_alloc_new w o
/-- Closings. -/
theorem bl_alloc {w W : World} (h : Below w.heap.size w W) (o : Obj) : Below w.heap.size w (W.alloc o) := h.alloc h.size o
theorem bl_drewN {w W : World} (h : Below w.heap.size w W) (n : Nat) : Below w.heap.size w (W.drewN n) := ⟨h.os, h.tape, h.output, h.size, h.block⟩
theorem bl_set {w W : World} (h : Below w.heap.size w W) {p : Addr} (u : Value) (hp : w.heap.size ≤ p.block) : Below w.heap.size w (W.setCell p u) := h.setCell hp u
theorem bl_then {w w1 w2 : World} (h : Below w.heap.size w w1) (k : Below w1.heap.size w1 w2) : Below w.heap.size w w2 :=
  h.trans ⟨k.os, k.tape, k.output, k.size, fun i hi => k.block i (Nat.lt_of_lt_of_le hi h.size)⟩
theorem bl_grown {w W W' : World} {row : Option Nat} (h : Below w.heap.size w W) (hg : W.grownBy W' row) (hr : ∀ k, row = some k → w.heap.size ≤ k) : Below w.heap.size w W' := h.grown hg h.size hr
/-- Below the first world, by what is in the context. -/
theorem bel {w W : World} (h : Below w.heap.size w W := by
    repeat (first
      | with_reducible assumption
      | exact Below.refl _ _
      | with_reducible refine bl_alloc ?_ _
      | with_reducible refine Below.drew ?_
      | with_reducible refine bl_drewN ?_ _
      | (with_reducible refine bl_set ?_ _ ?_; rotate_left; (simp; done) <;> omega)
      | (refine bl_set ?_ _ (by first | (simp; done) | (simp; omega) | omega))
      | (refine Hid.out (p := Below _ _ _) ?_; assumption))) : Below w.heap.size w W := h
end Go.Proofs.YtijhmlkehpoliaaGreatDoor
