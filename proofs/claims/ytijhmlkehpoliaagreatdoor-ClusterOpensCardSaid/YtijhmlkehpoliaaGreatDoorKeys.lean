/- slices.Sorted(maps.Keys(m)) at maps keyed by strings. -/
import Derived.Test.YtijhmlkehpoliaaGreatDoorApp
import Derived.Test.YtijhmlkehpoliaaGreatDoorShelf
import Derived.Shelf.AbstractIn
import Derived.WalkKit
set_option linter.unusedVariables false
set_option linter.unusedSimpArgs false
namespace Go.Proofs.YtijhmlkehpoliaaGreatDoor
open Go.RowKit Go.Maps Go.Sort Go.Shelf Go.Proofs

/-- A map's keys, ascending. -/
def skeys (F : List (ByteArray × Value)) : List ByteArray := ((F.map fun p => p.1.data.toList).mergeSort leB).map fun l => ⟨l.toArray⟩
theorem skeys_length (F : List (ByteArray × Value)) : (skeys F).length = F.length := by simp [skeys]

/-- A map whose entries are known reads as a datum, its elements whatever they are. -/
theorem MapT.owns {P : Program} {k : TypeId} (hk : P.underlying k = some .string) {w : World} {b : Nat} {F : List (ByteArray × Value)} (h : MapT (strKT hk) w b F) (hn : F.length ≤ maxLen) :
    ∃ D : DataW Unit, w.ownsMap P k (fun _ => some (.nil, [])) b F.length D ∧ Maps.size D = F.length ∧ (strKeys D).Perm (F.map fun p => p.1.data.toList) := by
  obtain ⟨es, clock, hb, h1, h2, h3, h4, h5⟩ := h
  have hlen : es.size = F.length := by have := h3.length_eq; simpa [ents] using this
  have hkey : ∀ e ∈ es.toList, ∃ x, (x, e.val) ∈ F ∧ e.key = .string x ∧ keyOf P k e.key = some (.string x.data.toList) := by
    intro e he
    obtain ⟨x, hx, hq⟩ := ents_mem h3 he
    have hq' : e.key = .string x := hq.symm
    exact ⟨x, hx, hq', by rw [hq']; exact WideMaps.keyOf_string_mk hk (h5 _ hx)⟩
  have hrd : ∀ e ∈ es.toList, ∃ x : ByteArray, e.key = .string x ∧ WideElems.rd (H := Unit) P k (fun _ => some (.nil, [])) e = some (.string x.data.toList, .nil) := by
    intro e he
    obtain ⟨x, _, hq, hk'⟩ := hkey e he
    exact ⟨x, hq, by simp [WideElems.rd, hk']⟩
  have hnk : (es.toList.map (·.key)).Nodup := by
    have e1 : (es.toList.map (·.key)).Perm ((F.map (·.1)).map Value.string) := by
      have := h3.map (·.1)
      simpa [ents, List.map_map, Function.comp_def, strKT] using this
    rw [e1.nodup_iff]
    exact List.pairwise_map.2 (h4.imp (fun hne he => hne (by injection he)))
  refine ⟨_, ⟨es, clock, hb, ⟨by omega, ⟨h2, h1, hnk⟩, fun e he => ?_⟩, by omega, rfl⟩, ?_, ?_⟩
  · obtain ⟨x, _, hx⟩ := hrd e he
    exact ⟨_, hx⟩
  · show List.length _ = _
    rw [(WideShapes.sorted_perm _).length_eq, List.length_map, Array.length_toList, hlen]
  · show (List.map _ _).Perm _
    refine ((WideShapes.sorted_perm _).map _).trans ?_
    rw [List.map_map]
    have e2 : es.toList.map ((fun p : Lit × DataW Unit => strOf p.1) ∘ WideElems.rg P k (fun _ => some (.nil, []))) = (es.toList.map fun e => (e.key, e.val)).map (fun q => match q.1 with | .string s => s.data.toList | _ => []) := by
      rw [List.map_map]
      refine List.map_congr_left fun e he => ?_
      obtain ⟨x, hq, hx⟩ := hrd e he
      simp [Function.comp, WideElems.rg, hx, hq, strOf]
    rw [e2]
    refine (h3.map _).trans ?_
    unfold ents
    rw [List.map_map]
    exact List.Perm.of_eq (List.map_congr_left fun p _ => rfl)

theorem sortsS (m : Nat) : AnyZ.SortsIn Tryz.prog Tryz.sortedS_ren Fence.wide m :=
  ⟨fun blk off cap ss W hH hblk hsz => callsIn_wide.2 (AnyM.slices_Sort_string Tryz.sortS blk off cap ss W hH hblk hsz),
   fun p cap W => callsIn_wide.2 (AnyM.slices_Sort_string_none Tryz.sortS p cap W)⟩

/-- maps.Keys of the disk's files. -/
theorem keysB (mb : Option Nat) (w : World) : Calls Tryz.prog 100 #[.map mb] w fun e w' => e = .returned (.func (.func 143) #[] #[.pointer (some ⟨w.heap.size, 0, none⟩)]) ∧ w' = w.alloc (.cells #[.map mb] 102) :=
  (callsIn_wide (n := 5)).1 (AnyZ.keys_in Tryz.keysB Fence.wide 5 trivial rfl mb w)
set_option maxHeartbeats 1000000 in
theorem sortedB (Bm b : Nat) (F : List (ByteArray × Value)) (w : World) (hBm : Bm < w.heap.size) (hm : w.cell? ⟨Bm, 0, none⟩ = some (.map (some b))) (hF : MapT (strKT (P := Tryz.prog) Tryz.underlying9) w b F) (hn : F.length * 16 ≤ 140737488355328) :
    Calls Tryz.prog 99 #[.func (.func 143) #[] #[.pointer (some ⟨Bm, 0, none⟩)]] w fun e w' => ∃ v, e = .returned v ∧ w'.ownsRow w.heap.size 9 1 v F.length ((skeys F).map .string) ∧ Below w.heap.size w w' := by
  obtain ⟨D, hD, hsz, hks⟩ := hF.owns Tryz.underlying9 (by unfold maxLen; omega)
  refine (callsIn_wide (n := 5)).1 ?_
  have hseq : SeqGives Fence.wide 2 Tryz.prog 143 #[.pointer (some ⟨Bm, 0, none⟩)] encStr (fun ss => ss.Perm (strKeys D)) (Maps.size D) w :=
    AnyZ.keys_gives (ρ := Tryz.keysB_ren) { Tryz.keysB with } Fence.wide _ trivial rfl (by omega) Bm b F.length D w hBm hm hD
  have cS := AnyZ.sorted_in Tryz.sortedS Fence.wide 5 trivial trivial trivial trivial rfl (by omega) (sortsS _) (enters_of Tryz.func142 (by kernel_rfl) rfl) 143 #[.pointer (some ⟨Bm, 0, none⟩)] trivial (enters_of Tryz.func143 (by kernel_rfl) rfl) _ _ (by rw [hsz]; unfold maxLen; omega) (by rw [hsz]; omega) w hseq
  change CallsIn _ _ Tryz.prog 99 _ _ _ at cS
  refine cS.mono ?_
  rintro e w' ⟨v, ss, rfl, hS, hrow, hnil, hb⟩
  have e1 : ss.Perm (F.map fun p => p.1.data.toList) := hS.trans hks
  have e2 : (ss.mergeSort leB).map encStr = (skeys F).map .string := by rw [mergeSort_of_perm e1]; simp [skeys, List.map_map, Function.comp_def, encStr]
  rw [show ss.length = F.length by rw [e1.length_eq, List.length_map]] at hrow
  exact ⟨v, rfl, by rw [← e2]; exact hrow, hb⟩
end Go.Proofs.YtijhmlkehpoliaaGreatDoor
