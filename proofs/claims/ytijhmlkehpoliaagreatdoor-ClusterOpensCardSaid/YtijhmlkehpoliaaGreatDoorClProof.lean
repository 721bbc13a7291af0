/- ClusterOpens: of every configuration, every number of nodes and of sessions and every room, the law answers true, and its arguments read behind the call as before. No bound but the form's own. -/
import Derived.Test.YtijhmlkehpoliaaGreatDoorClArg
import Derived.Test.YtijhmlkehpoliaaGreatDoorClFacts
set_option linter.unusedVariables false
set_option linter.unusedSimpArgs false
namespace Go.Proofs.YtijhmlkehpoliaaGreatDoor.clusterOpens
open Go.ChangeShapes Go.WideShapes Go.ChangeAt Go.RowKit Go.Deep Go.Joins

/-- A datum's cells, as its initialiser lays them. -/
def flat : Nat → DataW Unit → List Value
  | _, .lit (.int k n) => [.int k n]
  | _, .lit (.string l) => [.string ⟨l.toArray⟩]
  | n + 1, .agg ds => ds.flatMap (flat n)
  | _, _ => []
def lay (h : Array Obj) (b : Nat) (vs : List Value) : Array Obj := h.modify b fun
  | .cells _ t frozen => .cells vs.toArray t frozen
  | o => o
/-- A WORLD FOR THE WITNESS: the settled one, each listed variable holding what its initialiser lays. -/
noncomputable def laidWorld (os : Os) : World :=
  let w0 := World.holding Tryz.prog os ⟨#[.cells #[.string ⟨#[118, 97, 108, 117, 101, 32, 111, 117, 116, 32, 111, 102, 32, 114, 97, 110, 103, 101]⟩] 396, .cells #[.string ⟨#[105, 110, 118, 97, 108, 105, 100, 32, 115, 121, 110, 116, 97, 120]⟩] 396], #[], []⟩
  let low := w0.heap.size - 2
  { w0 with heap := lay (lay (lay (lay (lay (lay (lay (lay (lay w0.heap 5 (flat 4 Rows.laid_math_bits_deBruijn32tab)) 6 (flat 4 Rows.laid_math_bits_deBruijn64tab)) 3 (flat 4 Rows.laid_internal_strconv_uint64pow10)) 9 (flat 4 Rows.laid_unicode_utf8_acceptRanges))
      4 (flat 4 Rows.laid_thermograph_tsz_none)) 2 (flat 4 Rows.laid_thermograph_fileset_parts)) 8 (flat 4 Rows.laid_unicode_utf8_first)) 1 [.iface 394 (.pointer (some ⟨low, 0, none⟩))]) 0 [.iface 394 (.pointer (some ⟨low + 1, 0, none⟩))] }
abbrev wit : Array Value := #[.agg #[.slice none 0 0, .int .i64 0], .int .i64 0, .int .i64 0, .int .i64 0]
set_option maxRecDepth 100000 in
theorem laid_met (os : Os) : laidMet Tryz.prog Rows.clusterOpensRow.laid ((laidWorld os).forCall (fun _ _ => 0) ⟨#[], wit, []⟩).memory :=
  laidMet_of_run' 8 (by kernel_rfl) (by kernel_rfl)
theorem reads (os : Os) {H : Type} (enc : TypeId × Value → H) : ∃ places, DataW.whole enc Tryz.prog ((laidWorld os).forCall (fun _ _ => 0) ⟨#[], wit, []⟩).memory Tryz.f3.params.toList Rows.clusterOpensSpec.vars false wit.toList 8 = some ([.agg [.nil, .lit (.int .i64 0)], .lit (.int .i64 0), .lit (.int .i64 0), .lit (.int .i64 0)], [], places) :=
  ⟨[], by kernel_rfl⟩

set_option maxRecDepth 100000 in
theorem lifted (os : Os) (started : os.Started) (H : Type) (enc : TypeId × Value → H) (F : Stop.Interp) :
    ReturnsInHanded {} Tryz.checked os 3 .any ((OpenSpec.ofChange Rows.clusterOpensSpec).preRow enc Tryz.prog Tryz.f3 Rows.clusterOpensRow.domain false Rows.clusterOpensRow.laid) (((OpenSpec.ofChange Rows.clusterOpensSpec).at F).post enc Tryz.prog Tryz.f3 false true false false) := by
  obtain ⟨places, hx⟩ := reads os enc
  refine returnsInHanded_of_row (C := Tryz.checked) (s := OpenSpec.ofChange Rows.clusterOpensSpec) own started (by kernel_rfl) Tryz.func3
    (witness_row_at (enc := enc) (C := Tryz.checked) false (laidWorld os) wit rfl (by kernel_rfl) (by kernel_rfl) (by kernel_rfl)
      (OpenSpec.preRow_of_cond 8 hx (by kernel_rfl) (fun k hk => by cases hk) (by kernel_rfl) (laid_met os))) ?_
  intro W base args ds gs before hval hW _ _ _ hL _ _
  exact contract H enc W base args ds gs before hval hW

theorem said : Rows.ClusterOpensSaid :=
  OpenClaim.holds_of_cond 3 Tryz.f3 rfl rfl rfl rfl rfl rfl rfl ⟨rfl, rfl, rfl, rfl, rfl⟩ rfl rfl rfl rfl rfl named Tryz.func3 closed
    (of_decide_eq_true (by kernel_rfl)) noWrap
    (fun os started H enc _ F => by rw [OpenClaim.pre_eq_preRow]; exact lifted os started H enc F)

theorem plain (f : FuncId) (fn : Func) (hf : Tryz.pinned.checked.prog.funcNamed "thermograph/thermographlaw22.ClusterOpens" = some f) (hfn : Tryz.pinned.checked.prog.funcs[f]? = some fn) :
    true = Tryz.pinned.checked.prog.looks [] ∧ ∀ (j : Nat) t, fn.params[j]? = some t → Tryz.pinned.checked.prog.wantsStandIn t = false := by
  obtain rfl : f = 3 := Option.some.inj ((show Tryz.prog.funcNamed "thermograph/thermographlaw22.ClusterOpens" = some 3 by kernel_rfl).symm.trans hf) |>.symm
  obtain rfl : fn = Tryz.f3 := (Option.some.inj (Tryz.func3.symm.trans hfn)).symm
  refine ⟨by kernel_rfl, fun j t ht => ?_⟩
  rw [Tryz.params3] at ht
  have ht' := Array.mem_of_getElem? ht
  have : t = 24 ∨ t = 3 := by simpa using ht'
  rcases this with rfl | rfl
  · exact (show Tryz.prog.wantsStandIn 24 = false by kernel_rfl)
  · exact (show Tryz.prog.wantsStandIn 3 = false by kernel_rfl)

/-- THE CARD. -/
theorem card : Rows.ClusterOpensCardSaid :=
  Claim7.holds_tied_plain_at .later [] _ _ _ _ said (fun _ h => by cases h) (by kernel_rfl) (fun _ h => by cases h) clusterOpens_row_tie rfl ⟨rfl, rfl⟩ (by kernel_rfl) rfl plain (by kernel_rfl)
end Go.Proofs.YtijhmlkehpoliaaGreatDoor.clusterOpens
