/- ClusterOpens: what the row says of the program, fact by fact (in one they outgrow the kernel's lid). -/
import Derived.Test.YtijhmlkehpoliaaGreatDoorRows
import Derived.JoinedCond
import Derived.ProofKit
import Derived.WalkKit
namespace Go.Proofs.YtijhmlkehpoliaaGreatDoor.clusterOpens
set_option maxRecDepth 100000
theorem laidOut : laidOutB Tryz.prog = true := by kernel_rfl
theorem fE : mapsRowed Tryz.prog = true := by kernel_rfl
theorem fA : (Rows.clusterOpensRow.inPlace == Tryz.prog.inPlace 3) = true := by kernel_rfl
theorem fB : (Rows.clusterOpensRow.unfollowed == Tryz.prog.unfollowed 3) = true := by kernel_rfl
theorem fC : (Rows.clusterOpensRow.recurses == Tryz.prog.recurses 3) = true := by kernel_rfl
theorem fD : (Rows.clusterOpensRow.named == Tryz.prog.varsNamed 3) = true := by kernel_rfl
theorem closed : joinedFacts Tryz.pinned.checked.prog 3 Tryz.f3 (OpenSpec.ofChange Rows.clusterOpensSpec).bare Rows.clusterOpensRow = true := by
  show joinedFacts Tryz.prog 3 Tryz.f3 (OpenSpec.ofChange Rows.clusterOpensSpec).bare Rows.clusterOpensRow = true
  unfold joinedFacts
  rw [laidOut, fE, fA, fB, fC, fD]
  kernel_rfl
theorem named : Tryz.pinned.checked.prog.funcNamed Rows.clusterOpensRow.func = some 3 := by kernel_rfl
theorem noWrap : Tryz.f3.isWrapper Tryz.pinned.checked.prog Rows.clusterOpensRow.wrapper Rows.clusterOpensRow.mainSum := by
  unfold Func.isWrapper
  first | (rw [if_pos (by decide +kernel)]; kernel_rfl) | (rw [if_neg (by decide +kernel)]; exact ⟨rfl, rfl⟩)
end Go.Proofs.YtijhmlkehpoliaaGreatDoor.clusterOpens
