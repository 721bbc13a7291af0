/- The disk: its cells; what only reads it. -/
import Derived.Test.YtijhmlkehpoliaaGreatDoorKeys
import Derived.Test.YtijhmlkehpoliaaGreatDoorProg
import Derived.Lib.Hide
set_option linter.unusedVariables false
set_option linter.unusedSimpArgs false
namespace Go.Proofs.YtijhmlkehpoliaaGreatDoor
open Go.RowKit Go.Maps

theorem rb {a b : Bool} (h : a = b) : Ending.returned (.bool a) = .returned (.bool b) := by rw [h]
theorem ri {k : IntKind} {a b : Int} (h : a = b) : Ending.returned (.int k a) = .returned (.int k b) := by rw [h]

abbrev SK : KT Tryz.prog 9 ByteArray := strKT Tryz.underlying9
/-- The cells of a disk. -/
structure DS where
  room : Int
  used : Int
  fb : Nat
  lb : Nat
  pv : Value
  ops : Int
  left : Int
  keep : Int
  part : Int
  dead : Bool
def DkC (w : World) (p : Nat) (d : DS) : Prop := w.heap[p]? = some (.cells #[.int .i64 d.room, .int .i64 d.used, .map (some d.fb), .map (some d.lb), d.pv, .int .i64 d.ops, .int .i64 d.left, .int .i64 d.keep, .int .i64 d.part, .bool d.dead] 105 (0, 0))
theorem DkC.c {w : World} {p : Nat} {d : DS} (h : DkC w p d) (i : Nat) : w.cell? ⟨p, i, none⟩ = #[Value.int .i64 d.room, .int .i64 d.used, .map (some d.fb), .map (some d.lb), d.pv, .int .i64 d.ops, .int .i64 d.left, .int .i64 d.keep, .int .i64 d.part, .bool d.dead][i]? := blk_cell h i
theorem DkC.f {w : World} {p : Nat} {d : DS} (h : DkC w p d) (i : Nat) : w.frozen? ⟨p, i, none⟩ = false := blk_frozen h i
theorem DkC.fr {S : Nat → Prop} {w w' : World} {p : Nat} {d : DS} (h : DkC w p d) (hf : Fr S w w') (hs : ¬ S p) : DkC w' p d := hf.blk h hs

set_option maxHeartbeats 400000 in
theorem names_calls (p : Nat) (d : DS) (F : List (ByteArray × Value)) (w : World) (hd : DkC w p d) (hF : MapT SK w d.fb F) (hn : F.length * 16 ≤ 140737488355328) :
    Calls Tryz.prog 74 #[.pointer (some ⟨p, 0, none⟩)] w fun e w' => ∃ A c, e = .returned (.slice A F.length c) ∧ w'.ownsRow w.heap.size 9 1 (.slice A F.length c) F.length ((skeys F).map .string) ∧ Below w.heap.size w w' := by
  have c2 : w.cell? ⟨p, 2, none⟩ = some (.map (some d.fb)) := hd.c 2
  have hF1 : MapT SK (w.alloc (.cells #[.map (some d.fb)] 102)) d.fb F := hF.fr (Fr.of_below (S := fun _ => False) bel) (fun h => h)
  have h1 : (w.alloc (.cells #[.map (some d.fb)] 102)).cell? ⟨w.heap.size, 0, none⟩ = some (.map (some d.fb)) := (blk_cell (heap_alloc_new w _) 0).trans rfl
  have HC := Lib.hid (sortedB w.heap.size d.fb F _ (by simp) h1 hF1 hn)
  clear hF1 h1
  go_enter Tryz.func74, Tryz.ntmps74
  go_wp2_with (first
    | (go_at_call 100; refine (keysB _ _).mono ?_; rintro e w' ⟨rfl, rfl⟩)
    | (go_at_call 99; refine HC.out.mono ?_; rintro e w' ⟨v, rfl, ho, hb⟩))
  go_ret
  obtain ⟨A, c, rfl⟩ := own_shape ho
  exact ⟨A, c, rfl, ownsRow_base_a ho (by simp), bl_then bel hb⟩

def bc (s : ByteArray) : List Value := s.data.toList.map fun x => .int .u8 (x.toNat : Int)
theorem bc_len (s : ByteArray) : (bc s).length = s.size := by
  show (List.map _ s.data.toList).length = s.data.size
  rw [List.length_map, Array.length_toList]
/-- A slice of bytes. -/
def IsB (w : World) (v : Value) (s : ByteArray) : Prop := ∃ A c, v = .slice A s.size c ∧ SlR w A (bc s)
theorem IsB.below {w w' : World} {v : Value} {s : ByteArray} (h : IsB w v s) (hf : Below w.heap.size w w') : IsB w' v s := by
  obtain ⟨A, c, rfl, h⟩ := h; exact ⟨A, c, rfl, h.below hf⟩
theorem toStr {P : Program} {w : World} {A : Option Addr} {c : Nat} {s : ByteArray} (h : SlR w A (bc s)) {src dst e : TypeId} (hs : P.underlying src = some (.slice e)) (he : P.underlying e = some (.int .u8)) (hd : P.underlying dst = some .string) :
    (convert src dst (.slice A s.size c)).run P w = .ok (.string s) w := by
  by_cases h0 : bc s = []
  · have h1 : s.size = 0 := by rw [← bc_len, h0]; rfl
    have h2 : s = ByteArray.empty := by
      obtain ⟨⟨l⟩⟩ := s
      simp [ByteArray.size] at h1; subst h1; rfl
    cases A with
    | none => rw [Go.run_convert_bytes_nil (P := P) w src e hs he _ _ dst hd, h2]
    | some a =>
      rw [h1]
      have := Go.run_convert_bytes_back (P := P) w src dst e a c [] hs he hd (by simp)
      simp only [List.length_nil] at this
      rw [this, h2]; rfl
  · obtain ⟨b, o, rfl, hr⟩ := h h0
    have := Go.run_convert_bytes_back (P := P) w src dst e ⟨b, o, none⟩ c s.data.toList hs he hd (fun j hj => by
      rw [add_pl]
      exact hr j _ (by simp only [bc, List.getElem?_map, List.getElem?_eq_getElem hj, Option.map_some]))
    have e1 : s.data.toList.length = s.size := Array.length_toList
    rw [e1] at this
    exact this

/-- What a disk's files are: names with bytes. -/
def Files (w : World) (b : Nat) (F : List (ByteArray × Value)) : Prop := MapT SK w b F ∧ ∀ q ∈ F, ∃ s, IsB w q.2 s

set_option maxHeartbeats 400000 in
theorem read_calls (p : Nat) (d : DS) (F : List (ByteArray × Value)) (w : World) (x : ByteArray) (hd : DkC w p d) (hF : Files w d.fb F) (hx : x.size ≤ maxLen) :
    Calls Tryz.prog 28 #[.pointer (some ⟨p, 0, none⟩), .string x] w fun e w' =>
      ((∃ v, (x, v) ∈ F ∧ ∃ s, IsB w v s ∧ e = .returned (.tuple #[.string s, .bool true])) ∨ ((∀ v, (x, v) ∉ F) ∧ e = .returned (.tuple #[.string ByteArray.empty, .bool false]))) ∧ w' = w := by
  have c2 : w.cell? ⟨p, 2, none⟩ = some (.map (some d.fb)) := hd.c 2
  rcases hF.1.look (t := 102) Tryz.underlying102 (z := .slice none 0 0) (Tryz.zeroValue90 _) x hx true with ⟨v, hv, hl⟩ | ⟨hn, hl⟩
  · obtain ⟨s, hs⟩ := hF.2 _ hv
    obtain ⟨A, c, rfl, hr⟩ := id hs
    have hl' : (Instr.lookup 102 (.map (some d.fb)) (.string x) true).run Tryz.prog w = .ok (.tuple #[.slice A s.size c, .bool true]) w := hl
    clear hl
    have ht := toStr (P := Tryz.prog) (c := c) hr Tryz.underlying90 Tryz.underlying5 Tryz.underlying9
    go_enter Tryz.func28, Tryz.ntmps28
    go_wp2
    go_ret2
    exact ⟨.inl ⟨_, hv, s, hs, by simp⟩, rfl⟩
  · have hl' : (Instr.lookup 102 (.map (some d.fb)) (.string x) true).run Tryz.prog w = .ok (.tuple #[.slice none 0 0, .bool false]) w := hl
    clear hl
    have ht := Go.run_convert_bytes_nil (P := Tryz.prog) w 90 _ Tryz.underlying90 Tryz.underlying5 0 0 _ Tryz.underlying9
    go_enter Tryz.func28, Tryz.ntmps28
    go_wp2
    go_ret2
    exact ⟨.inr ⟨hn, by simp⟩, rfl⟩
end Go.Proofs.YtijhmlkehpoliaaGreatDoor
