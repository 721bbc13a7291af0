/- The reference's new cluster. -/
import Derived.Test.YtijhmlkehpoliaaGreatDoorClRefN
set_option linter.unusedVariables false
set_option linter.unusedSimpArgs false
namespace Go.Proofs.YtijhmlkehpoliaaGreatDoor
open Go.RowKit

/-- The reference's cluster under way: k machines, l sessions. -/
def RCO (W1 W : World) (xb : Nat) (k l : Nat) : Prop := ∃ (c0 c1 c4 c5 : Value) (us : List Value) (A2 : Option Addr) (c2 : Nat) (A3 : Option Addr) (c3 : Nat) (vs : List Value),
  W.heap[xb]? = some (.cells #[c0, c1, .slice A2 k c2, .slice A3 l c3, c4, c5] 77 (0, 0)) ∧ W.ownsRow W1.heap.size 78 1 (.slice A2 k c2) k us ∧ W.ownsRow W1.heap.size 84 1 (.slice A3 l c3) l vs ∧
  Below W1.heap.size W1 W ∧ W1.heap.size ≤ xb
theorem infoQM : (Tryz.prog.info? 78).map (fun i => (i.zero, i.size, i.bytes)) = some (some (.pointer none), 1, 8) := by kernel_rfl
theorem infoQS : (Tryz.prog.info? 84).map (fun i => (i.zero, i.size, i.bytes)) = some (some (.pointer none), 1, 8) := by kernel_rfl
section
variable {W1 wr V2 : World} {xb k l c2 c3 c6 : Nat} {c0 c1 c4 c5 : Value} {A2 A3 A6 : Option Addr} {us vs : List Value}
theorem RCO.step (g1 : wr.heap[xb]? = some (.cells #[c0, c1, .slice A2 k c2, .slice A3 l c3, c4, c5] 77 (0, 0))) (g2 : wr.ownsRow W1.heap.size 78 1 (.slice A2 k c2) k us) (g3 : wr.ownsRow W1.heap.size 84 1 (.slice A3 l c3) l vs)
    (g5 : Below W1.heap.size W1 wr) (g6 : W1.heap.size ≤ xb) (hF : Fr (fun i => (Value.slice A2 k c2).ownBlock = some i) wr V2) {ws : List Value} (ho6 : V2.ownsRow W1.heap.size 78 1 (.slice A6 (k + 1) c6) (k + 1) ws) :
    RCO W1 (V2.setCell ⟨xb, 2, none⟩ (.slice A6 (k + 1) c6)) xb (k + 1) l := by
  have k2 := hF.blk g1 (fun hi => own_ne g2 hi g1 (by decide) rfl)
  have hX : Fr (fun i => i = xb) V2 (V2.setCell ⟨xb, 2, none⟩ (.slice A6 (k + 1) c6)) := (Fr.refl (fun i => i = xb) V2).setCell (.inr rfl) _
  have hF2 : Fr (fun i => (Value.slice A2 k c2).ownBlock = some i ∨ i = xb) wr (V2.setCell ⟨xb, 2, none⟩ (.slice A6 (k + 1) c6)) := (hF.mono (fun i _ h => .inl h)).setCell (.inr (.inr rfl)) _
  refine ⟨c0, c1, c4, c5, ws, A6, c6, A3, c3, vs, (heap_setCell_same _ _ _ _ _ _ k2).trans rfl, own_fr ho6 hX ?_, own_fr g3 hF2 ?_, g5.trans (hF2.below g5.size ?_), g6⟩
  · rintro i _ hi rfl
    exact own_ne ho6 hi k2 (by decide) rfl
  · rintro i _ hi (h | rfl)
    · obtain ⟨_, hc⟩ := own_none g3 hi
      exact own_ne g2 h hc (by decide) rfl
    · exact own_ne g3 hi g1 (by decide) rfl
  · rintro i hi (h | h)
    · have := own_base g2 _ h; omega
    · omega
theorem RCO.stepS (g1 : wr.heap[xb]? = some (.cells #[c0, c1, .slice A2 k c2, .slice A3 l c3, c4, c5] 77 (0, 0))) (g2 : wr.ownsRow W1.heap.size 78 1 (.slice A2 k c2) k us) (g3 : wr.ownsRow W1.heap.size 84 1 (.slice A3 l c3) l vs)
    (g5 : Below W1.heap.size W1 wr) (g6 : W1.heap.size ≤ xb) (hF : Fr (fun i => (Value.slice A3 l c3).ownBlock = some i) wr V2) {ws : List Value} (ho6 : V2.ownsRow W1.heap.size 84 1 (.slice A6 (l + 1) c6) (l + 1) ws) :
    RCO W1 (V2.setCell ⟨xb, 3, none⟩ (.slice A6 (l + 1) c6)) xb k (l + 1) := by
  have k2 := hF.blk g1 (fun hi => own_ne g3 hi g1 (by decide) rfl)
  have hX : Fr (fun i => i = xb) V2 (V2.setCell ⟨xb, 3, none⟩ (.slice A6 (l + 1) c6)) := (Fr.refl (fun i => i = xb) V2).setCell (.inr rfl) _
  have hF2 : Fr (fun i => (Value.slice A3 l c3).ownBlock = some i ∨ i = xb) wr (V2.setCell ⟨xb, 3, none⟩ (.slice A6 (l + 1) c6)) := (hF.mono (fun i _ h => .inl h)).setCell (.inr (.inr rfl)) _
  refine ⟨c0, c1, c4, c5, us, A2, c2, A6, c6, ws, (heap_setCell_same _ _ _ _ _ _ k2).trans rfl, own_fr g2 hF2 ?_, own_fr ho6 hX ?_, g5.trans (hF2.below g5.size ?_), g6⟩
  · rintro i _ hi (h | rfl)
    · obtain ⟨_, hc⟩ := own_none g2 hi
      exact own_ne g3 h hc (by decide) rfl
    · exact own_ne g2 hi g1 (by decide) rfl
  · rintro i _ hi rfl
    exact own_ne ho6 hi k2 (by decide) rfl
  · rintro i hi (h | h)
    · have := own_base g3 _ h; omega
    · omega
end

set_option maxHeartbeats 2000000 in
theorem rClNewNo (A : Option Addr) (c : Nat) (xs : List Sp) (sh nodes sess room : Int) (w : World) (hm : xs.length ≤ 9223372036854775807) (hA : SlR w A (xs.flatMap Sp.enc)) (hno : clOk xs sh nodes sess = false) :
    Calls Tryz.prog 5 #[.agg #[.slice A xs.length c, .int .i64 sh], .int .i64 nodes, .int .i64 sess, .int .i64 room] w fun e w' => e = .returned (.tuple #[.pointer none, .int .i64 1]) ∧ Below w.heap.size w w' := by
  go_enter Tryz.func5, Tryz.ntmps5
  go_wp2_with (go_at_call 6; refine (refCheck A c xs sh _ hm (hA.below bel)).mono ?_; rintro e W ⟨rfl, hbW⟩; have e2 : Below w.heap.size w W := bl_then bel hbW; obtain ⟨q, hq, hq2⟩ : ∃ q, q = errIf (cfgOk xs sh) ∧ (q = 0 → cfgOk xs sh = true) := ⟨_, rfl, by cases cfgOk xs sh <;> simp [errIf]⟩; rw [← hq])
  all_goals (try (go_ret2; exact ⟨rfl, e2⟩))
  exfalso
  have hc := hq2 (by rw [hq]; assumption)
  simp only [clOk, hc, btw, Bool.true_and, Bool.and_eq_false_iff, decide_eq_false_iff_not] at hno
  omega

set_option maxHeartbeats 4000000 in
theorem rClNew (A : Option Addr) (c : Nat) (xs : List Sp) (sh : Int) (nodes sess : Nat) (room : Int) (w : World) (hA : SlR w A (xs.flatMap Sp.enc)) (hok : clOk xs sh nodes sess = true) :
    Calls Tryz.prog 5 #[.agg #[.slice A xs.length c, .int .i64 sh], .int .i64 nodes, .int .i64 sess, .int .i64 room] w fun e w' => ∃ x, e = .returned (.tuple #[.pointer (some ⟨x, 0, none⟩), .int .i64 0]) ∧ Below w.heap.size w w' := by
  obtain ⟨hok, h3, h4⟩ : cfgOk xs sh = true ∧ btw 3 nodes 8 = true ∧ btw 1 sess 4 = true := by simpa [clOk, Bool.and_eq_true] using hok
  have hl := cfg_len hok
  have h3' := btw_t h3
  have h4' := btw_t h4
  go_enter Tryz.func5, Tryz.ntmps5
  go_wp2_with (go_at_call 6; refine (refCheckOk A c xs sh _ (by omega) (hA.below bel) hok).mono ?_; rintro e W ⟨rfl, hbW⟩; have e0 : W.cell? ⟨w.heap.size, 0, none⟩ = some (.slice A xs.length c) := (hbW.cell (by simp)).trans (by go_simp); have e1 : W.cell? ⟨w.heap.size, 1, none⟩ = some (.int .i64 sh) := (hbW.cell (by simp)).trans (by go_simp); have e2 : Below w.heap.size w W := bl_then bel hbW; have e3 : w.heap.size < W.heap.size := (by have := hbW.size; simp at this; omega))
  go_region_held3 (fun U => U.cell? ⟨w.heap.size, 0, none⟩ = some (.slice A xs.length c) ∧ U.cell? ⟨w.heap.size, 1, none⟩ = some (.int .i64 sh) ∧ Below (w.alloc (.cells #[.slice A xs.length c, .int .i64 sh] 24)).heap.size (w.alloc (.cells #[.slice A xs.length c, .int .i64 sh] 24)) U ∧ w.heap.size < U.heap.size) (first | assumption | exact two_alloc (by assumption) _ | exact ⟨e0, e1, ⟨hbW.os, hbW.tape, hbW.output, hbW.size, hbW.block⟩, e3⟩) (first
    | (go_at_call 19; have hS := ‹_ ∧ _ ∧ Below (w.alloc _).heap.size (w.alloc _) _ ∧ _›; refine (rNew _ _).mono ?_; rintro e w' ⟨p, rfl, hd, hb⟩; have hS' := two_below hS hb; clear hS)
    | (go_at_call 18; have hS := ‹_ ∧ _ ∧ Below (w.alloc _).heap.size (w.alloc _) _ ∧ _›; refine (r15Open _ _ (by first | assumption | exact RD0.below ‹RD0 _ _› (bl_alloc (Below.refl _ _) _))).mono ?_; rintro e w' ⟨q, rfl, hb⟩; have hS' := two_below hS hb; clear hS))
  next =>
    go_wp2
    obtain ⟨_, _, H3, _⟩ := ‹_ ∧ _ ∧ Below (w.alloc _).heap.size (w.alloc _) _ ∧ _›
    have hW1 : Below w.heap.size w w' := bl_then bel (hS'.2.2.1)
    have hxl : w.heap.size ≤ w'.heap.size := by have := hW1.size; omega
    have hB0 : Below w.heap.size w _ := bl_then (bl_alloc (Below.refl _ _) _) H3
    have kb := (H3.block w.heap.size (by simp)).trans (heap_alloc_new w _)
    generalize hxb : w'.heap.size = xb at *
    clear H3 hbW e0 e1 hb hS'
    go_loopw [11] (fun v W => ∃ k : Nat, k ≤ nodes ∧ v = .int .i64 k ∧ W.heap[w.heap.size]? = some (.cells #[.slice A xs.length c, .int .i64 sh] 24 (0, 0)) ∧ RCO w W xb k 0) (fun v _ => nodes - (intOf v).toNat)
    case atStart => exact ⟨0, by omega, rfl, kb, _, _, _, _, [], none, 0, none, 0, [], new_at (hxb.symm.trans (by simp)), own_nil _ _ _ _, own_nil _ _ _ _, hB0, hxl⟩
    case round =>
      clear hB0 kb
      obtain ⟨k, hk, rfl, kb, hco⟩ := hrel
      obtain ⟨d0, d1, d4, d5, us, A2, c2, A3, c3, vs, g1, g2, g3, g5, g6⟩ := id hco
      have b0 : wr.cell? ⟨w.heap.size, 0, none⟩ = some (.slice A xs.length c) := blk_cell kb 0
      have b1 : wr.cell? ⟨w.heap.size, 1, none⟩ = some (.int .i64 sh) := blk_cell kb 1
      have hwl := lt_of_blk kb
      have hgl := lt_of_blk g1
      by_cases hlt : k < nodes
      · go_wp2_with (go_at_call 19; refine (rNew _ _).mono ?_; rintro e U ⟨p, rfl, hd, hb⟩; have x0 := (hb.cell (p := ⟨w.heap.size, 0, none⟩) (lt_of_blk kb)).trans b0; have x1 := (hb.cell (p := ⟨w.heap.size, 1, none⟩) (lt_of_blk kb)).trans b1; have hxU := Nat.lt_of_lt_of_le (lt_of_blk kb) hb.size; have hgU := Nat.lt_of_lt_of_le hgl hb.size)
        have hU : SlR U A (xs.flatMap Sp.enc) := hA.below (g5.trans (hb.mono g5.size))
        have hme : btw 0 k 7 = true := by unfold btw; simp; omega
        go_region_with (go_at_call 20; refine (rNodeOpen p A c xs sh k _ (hd.below bel) (hU.below bel) hok hme).mono ?_; rintro e U2 ⟨nq, rfl, hb2⟩; have y1 : U2.cell? ⟨U.heap.size, 1, none⟩ = some (.pointer none) := (hb2.cell (by simp)).trans (by go_simp); have hUl : U.heap.size < U2.heap.size := (by have := hb2.size; simp at this; omega); have yf : U2.frozen? ⟨U.heap.size, 1, none⟩ = false := ((Fr.of_below (S := fun _ => False) hb2).frozen (p := ⟨U.heap.size, 1, none⟩) (by simp) (fun h => h)).trans (by go_simp); have hbx : Below wr.heap.size wr U2 := bl_then (bl_then hb bel) hb2; have kx := (Fr.of_below (S := fun _ => False) hbx).blk g1 (fun h => h); have z2 : U2.cell? ⟨xb, 2, none⟩ = some (.slice A2 k c2) := blk_cell kx 2; have zf : U2.frozen? ⟨xb, 2, none⟩ = false := blk_frozen kx 2; have hne : ¬ U.heap.size = xb := (by omega); have hba := hbx.setCell (p := ⟨U.heap.size, 1, none⟩) hb.size (.pointer (some ⟨nq, 0, none⟩)))
        all_goals go_wp2_with (at_builtin; refine wpL_app _ rfl _ _ _ _ rfl w.heap.size 78 _ 1 8 Tryz.underlying74 infoQM rfl (by decide) _ k _ rfl (own_below g2 (bl_alloc hba _)) _ 1 [ptr U.heap.size] rfl (Src.of Tryz.underlying74 _ _ _ _ rfl (by decide) (one_new' _ [ptr U.heap.size] _ _ (by simp)) (by simp [Value.oneCell', ptr])) (by omega) (by have := g5.size; have := hba.size; simp; simp at this; omega) ?_; intro A6 c6 V2 ho6 hg6 _; have hF : Fr (fun i => (Value.slice A2 k c2).ownBlock = some i) wr V2 := (Fr.of_below (bl_alloc hba _)).grown hg6 (fun i hi => .inr hi); have k2 := hF.blk g1 (fun hi => own_ne g2 hi g1 (by decide) rfl); have kb2 := hF.blk kb (fun hi => own_ne g2 hi kb (by decide) rfl); have e3 : V2.cell? ⟨xb, 2, none⟩ = some (.slice A2 k c2) := blk_cell k2 2; have f4 : V2.frozen? ⟨xb, 2, none⟩ = false := blk_frozen k2 2)
        all_goals exact ⟨⟨k + 1, by omega, by simp, (heap_setCell_other _ _ _ _ (fun he => blk_ne kb2 k2 (by decide) he)).trans kb2, RCO.step g1 g2 g3 g5 g6 hF ho6⟩, by simp [intOf]; omega⟩
      · have hke : k = nodes := by omega
        subst hke
        go_wp2
        go_loopw [13] (fun v W => ∃ l : Nat, l ≤ sess ∧ v = .int .i64 l ∧ W.heap[w.heap.size]? = some (.cells #[.slice A xs.length c, .int .i64 sh] 24 (0, 0)) ∧ RCO w W xb k l) (fun v _ => sess - (intOf v).toNat)
        case atStart => exact ⟨0, by omega, rfl, kb, hco⟩
        case round =>
          clear hco g1 g2 g3 g5 g6 b0 b1 kb hwl hgl
          obtain ⟨l, hll, rfl, kb, hco⟩ := hrel
          obtain ⟨d0, d1, d4, d5, us, A2, c2, A3, c3, vs, g1, g2, g3, g5, g6⟩ := id hco
          have b0 : wr.cell? ⟨w.heap.size, 0, none⟩ = some (.slice A xs.length c) := blk_cell kb 0
          have b1 : wr.cell? ⟨w.heap.size, 1, none⟩ = some (.int .i64 sh) := blk_cell kb 1
          have hwl := lt_of_blk kb
          have hgl := lt_of_blk g1
          by_cases hlt : l < sess
          · go_wp2_with (first | (go_at_call 21; refine (r21New A c xs.length sh l _).mono ?_; rintro e U2 ⟨pa, pc, rfl, hba⟩; have kx := (Fr.of_below (S := fun _ => False) hba).blk g1 (fun h => h); have z2 : U2.cell? ⟨xb, 3, none⟩ = some (.slice A3 l c3) := blk_cell kx 3; have zf : U2.frozen? ⟨xb, 3, none⟩ = false := blk_frozen kx 3) | (at_builtin; refine wpL_app _ rfl _ _ _ _ rfl w.heap.size 84 _ 1 8 Tryz.underlying75 infoQS rfl (by decide) _ l _ rfl (own_below g3 (bl_alloc hba _)) _ 1 [.pointer pa] rfl (Src.of Tryz.underlying75 _ _ _ _ rfl (by decide) (one_new _ [.pointer pa] _) (by simp [Value.oneCell'])) (by omega) (by have := g5.size; have := hba.size; simp; omega) ?_; intro A6 c6 V2 ho6 hg6 _; have hF : Fr (fun i => (Value.slice A3 l c3).ownBlock = some i) wr V2 := (Fr.of_below (bl_alloc hba _)).grown hg6 (fun i hi => .inr hi); have k2 := hF.blk g1 (fun hi => own_ne g3 hi g1 (by decide) rfl); have kb2 := hF.blk kb (fun hi => own_ne g3 hi kb (by decide) rfl); have e3 : V2.cell? ⟨xb, 3, none⟩ = some (.slice A3 l c3) := blk_cell k2 3; have f4 : V2.frozen? ⟨xb, 3, none⟩ = false := blk_frozen k2 3))
            exact ⟨⟨l + 1, by omega, by simp, (heap_setCell_other _ _ _ _ (fun he => blk_ne kb2 k2 (by decide) he)).trans kb2, RCO.stepS g1 g2 g3 g5 g6 hF ho6⟩, by simp [intOf]; omega⟩
          · go_wp2
            go_ret2
            exact ⟨_, rfl, g5⟩
  next =>
    go_wp2
    obtain ⟨_, _, H3, _⟩ := ‹_ ∧ _ ∧ Below (w.alloc _).heap.size (w.alloc _) _ ∧ _›
    have hW1 : Below w.heap.size w w' := bl_then bel (hS'.2.2.1)
    have hxl : w.heap.size ≤ w'.heap.size := by have := hW1.size; omega
    have hB0 : Below w.heap.size w _ := bl_then (bl_alloc (Below.refl _ _) _) H3
    have kb := (H3.block w.heap.size (by simp)).trans (heap_alloc_new w _)
    generalize hxb : w'.heap.size = xb at *
    clear H3 hbW e0 e1 hb hS'
    go_loopw [11] (fun v W => ∃ k : Nat, k ≤ nodes ∧ v = .int .i64 k ∧ W.heap[w.heap.size]? = some (.cells #[.slice A xs.length c, .int .i64 sh] 24 (0, 0)) ∧ RCO w W xb k 0) (fun v _ => nodes - (intOf v).toNat)
    case atStart => exact ⟨0, by omega, rfl, kb, _, _, _, _, [], none, 0, none, 0, [], new_at (hxb.symm.trans (by simp)), own_nil _ _ _ _, own_nil _ _ _ _, hB0, hxl⟩
    case round =>
      clear hB0 kb
      obtain ⟨k, hk, rfl, kb, hco⟩ := hrel
      obtain ⟨d0, d1, d4, d5, us, A2, c2, A3, c3, vs, g1, g2, g3, g5, g6⟩ := id hco
      have b0 : wr.cell? ⟨w.heap.size, 0, none⟩ = some (.slice A xs.length c) := blk_cell kb 0
      have b1 : wr.cell? ⟨w.heap.size, 1, none⟩ = some (.int .i64 sh) := blk_cell kb 1
      have hwl := lt_of_blk kb
      have hgl := lt_of_blk g1
      by_cases hlt : k < nodes
      · go_wp2_with (go_at_call 19; refine (rNew _ _).mono ?_; rintro e U ⟨p, rfl, hd, hb⟩; have x0 := (hb.cell (p := ⟨w.heap.size, 0, none⟩) (lt_of_blk kb)).trans b0; have x1 := (hb.cell (p := ⟨w.heap.size, 1, none⟩) (lt_of_blk kb)).trans b1; have hxU := Nat.lt_of_lt_of_le (lt_of_blk kb) hb.size; have hgU := Nat.lt_of_lt_of_le hgl hb.size)
        have hU : SlR U A (xs.flatMap Sp.enc) := hA.below (g5.trans (hb.mono g5.size))
        have hme : btw 0 k 7 = true := by unfold btw; simp; omega
        go_region_with (go_at_call 20; refine (rNodeOpen p A c xs sh k _ (hd.below bel) (hU.below bel) hok hme).mono ?_; rintro e U2 ⟨nq, rfl, hb2⟩; have y1 : U2.cell? ⟨U.heap.size, 1, none⟩ = some (.pointer none) := (hb2.cell (by simp)).trans (by go_simp); have hUl : U.heap.size < U2.heap.size := (by have := hb2.size; simp at this; omega); have yf : U2.frozen? ⟨U.heap.size, 1, none⟩ = false := ((Fr.of_below (S := fun _ => False) hb2).frozen (p := ⟨U.heap.size, 1, none⟩) (by simp) (fun h => h)).trans (by go_simp); have hbx : Below wr.heap.size wr U2 := bl_then (bl_then hb bel) hb2; have kx := (Fr.of_below (S := fun _ => False) hbx).blk g1 (fun h => h); have z2 : U2.cell? ⟨xb, 2, none⟩ = some (.slice A2 k c2) := blk_cell kx 2; have zf : U2.frozen? ⟨xb, 2, none⟩ = false := blk_frozen kx 2; have hne : ¬ U.heap.size = xb := (by omega); have hba := hbx.setCell (p := ⟨U.heap.size, 1, none⟩) hb.size (.pointer (some ⟨nq, 0, none⟩)))
        all_goals go_wp2_with (at_builtin; refine wpL_app _ rfl _ _ _ _ rfl w.heap.size 78 _ 1 8 Tryz.underlying74 infoQM rfl (by decide) _ k _ rfl (own_below g2 (bl_alloc hba _)) _ 1 [ptr U.heap.size] rfl (Src.of Tryz.underlying74 _ _ _ _ rfl (by decide) (one_new' _ [ptr U.heap.size] _ _ (by simp)) (by simp [Value.oneCell', ptr])) (by omega) (by have := g5.size; have := hba.size; simp; simp at this; omega) ?_; intro A6 c6 V2 ho6 hg6 _; have hF : Fr (fun i => (Value.slice A2 k c2).ownBlock = some i) wr V2 := (Fr.of_below (bl_alloc hba _)).grown hg6 (fun i hi => .inr hi); have k2 := hF.blk g1 (fun hi => own_ne g2 hi g1 (by decide) rfl); have kb2 := hF.blk kb (fun hi => own_ne g2 hi kb (by decide) rfl); have e3 : V2.cell? ⟨xb, 2, none⟩ = some (.slice A2 k c2) := blk_cell k2 2; have f4 : V2.frozen? ⟨xb, 2, none⟩ = false := blk_frozen k2 2)
        all_goals exact ⟨⟨k + 1, by omega, by simp, (heap_setCell_other _ _ _ _ (fun he => blk_ne kb2 k2 (by decide) he)).trans kb2, RCO.step g1 g2 g3 g5 g6 hF ho6⟩, by simp [intOf]; omega⟩
      · have hke : k = nodes := by omega
        subst hke
        go_wp2
        go_loopw [13] (fun v W => ∃ l : Nat, l ≤ sess ∧ v = .int .i64 l ∧ W.heap[w.heap.size]? = some (.cells #[.slice A xs.length c, .int .i64 sh] 24 (0, 0)) ∧ RCO w W xb k l) (fun v _ => sess - (intOf v).toNat)
        case atStart => exact ⟨0, by omega, rfl, kb, hco⟩
        case round =>
          clear hco g1 g2 g3 g5 g6 b0 b1 kb hwl hgl
          obtain ⟨l, hll, rfl, kb, hco⟩ := hrel
          obtain ⟨d0, d1, d4, d5, us, A2, c2, A3, c3, vs, g1, g2, g3, g5, g6⟩ := id hco
          have b0 : wr.cell? ⟨w.heap.size, 0, none⟩ = some (.slice A xs.length c) := blk_cell kb 0
          have b1 : wr.cell? ⟨w.heap.size, 1, none⟩ = some (.int .i64 sh) := blk_cell kb 1
          have hwl := lt_of_blk kb
          have hgl := lt_of_blk g1
          by_cases hlt : l < sess
          · go_wp2_with (first | (go_at_call 21; refine (r21New A c xs.length sh l _).mono ?_; rintro e U2 ⟨pa, pc, rfl, hba⟩; have kx := (Fr.of_below (S := fun _ => False) hba).blk g1 (fun h => h); have z2 : U2.cell? ⟨xb, 3, none⟩ = some (.slice A3 l c3) := blk_cell kx 3; have zf : U2.frozen? ⟨xb, 3, none⟩ = false := blk_frozen kx 3) | (at_builtin; refine wpL_app _ rfl _ _ _ _ rfl w.heap.size 84 _ 1 8 Tryz.underlying75 infoQS rfl (by decide) _ l _ rfl (own_below g3 (bl_alloc hba _)) _ 1 [.pointer pa] rfl (Src.of Tryz.underlying75 _ _ _ _ rfl (by decide) (one_new _ [.pointer pa] _) (by simp [Value.oneCell'])) (by omega) (by have := g5.size; have := hba.size; simp; omega) ?_; intro A6 c6 V2 ho6 hg6 _; have hF : Fr (fun i => (Value.slice A3 l c3).ownBlock = some i) wr V2 := (Fr.of_below (bl_alloc hba _)).grown hg6 (fun i hi => .inr hi); have k2 := hF.blk g1 (fun hi => own_ne g3 hi g1 (by decide) rfl); have kb2 := hF.blk kb (fun hi => own_ne g3 hi kb (by decide) rfl); have e3 : V2.cell? ⟨xb, 3, none⟩ = some (.slice A3 l c3) := blk_cell k2 3; have f4 : V2.frozen? ⟨xb, 3, none⟩ = false := blk_frozen k2 3))
            exact ⟨⟨l + 1, by omega, by simp, (heap_setCell_other _ _ _ _ (fun he => blk_ne kb2 k2 (by decide) he)).trans kb2, RCO.stepS g1 g2 g3 g5 g6 hF ho6⟩, by simp [intOf]; omega⟩
          · go_wp2
            go_ret2
            exact ⟨_, rfl, g5⟩
  next =>
    go_wp2
    obtain ⟨_, _, H3, _⟩ := ‹_ ∧ _ ∧ Below (w.alloc _).heap.size (w.alloc _) _ ∧ _›
    have hW1 : Below w.heap.size w w' := bl_then bel (hS'.2.2.1)
    have hxl : w.heap.size ≤ w'.heap.size + 1 := by have := hW1.size; omega
    have hB0 : Below w.heap.size w _ := bl_then (bl_alloc (Below.refl _ _) _) H3
    have kb := (H3.block w.heap.size (by simp)).trans (heap_alloc_new w _)
    generalize hxb : w'.heap.size + 1 = xb at *
    clear H3 hbW e0 e1 hb hS'
    go_loopw [11] (fun v W => ∃ k : Nat, k ≤ nodes ∧ v = .int .i64 k ∧ W.heap[w.heap.size]? = some (.cells #[.slice A xs.length c, .int .i64 sh] 24 (0, 0)) ∧ RCO w W xb k 0) (fun v _ => nodes - (intOf v).toNat)
    case atStart => exact ⟨0, by omega, rfl, kb, _, _, _, _, [], none, 0, none, 0, [], new_at (hxb.symm.trans (by simp)), own_nil _ _ _ _, own_nil _ _ _ _, hB0, hxl⟩
    case round =>
      clear hB0 kb
      obtain ⟨k, hk, rfl, kb, hco⟩ := hrel
      obtain ⟨d0, d1, d4, d5, us, A2, c2, A3, c3, vs, g1, g2, g3, g5, g6⟩ := id hco
      have b0 : wr.cell? ⟨w.heap.size, 0, none⟩ = some (.slice A xs.length c) := blk_cell kb 0
      have b1 : wr.cell? ⟨w.heap.size, 1, none⟩ = some (.int .i64 sh) := blk_cell kb 1
      have hwl := lt_of_blk kb
      have hgl := lt_of_blk g1
      by_cases hlt : k < nodes
      · go_wp2_with (go_at_call 19; refine (rNew _ _).mono ?_; rintro e U ⟨p, rfl, hd, hb⟩; have x0 := (hb.cell (p := ⟨w.heap.size, 0, none⟩) (lt_of_blk kb)).trans b0; have x1 := (hb.cell (p := ⟨w.heap.size, 1, none⟩) (lt_of_blk kb)).trans b1; have hxU := Nat.lt_of_lt_of_le (lt_of_blk kb) hb.size; have hgU := Nat.lt_of_lt_of_le hgl hb.size)
        have hU : SlR U A (xs.flatMap Sp.enc) := hA.below (g5.trans (hb.mono g5.size))
        have hme : btw 0 k 7 = true := by unfold btw; simp; omega
        go_region_with (go_at_call 20; refine (rNodeOpen p A c xs sh k _ (hd.below bel) (hU.below bel) hok hme).mono ?_; rintro e U2 ⟨nq, rfl, hb2⟩; have y1 : U2.cell? ⟨U.heap.size, 1, none⟩ = some (.pointer none) := (hb2.cell (by simp)).trans (by go_simp); have hUl : U.heap.size < U2.heap.size := (by have := hb2.size; simp at this; omega); have yf : U2.frozen? ⟨U.heap.size, 1, none⟩ = false := ((Fr.of_below (S := fun _ => False) hb2).frozen (p := ⟨U.heap.size, 1, none⟩) (by simp) (fun h => h)).trans (by go_simp); have hbx : Below wr.heap.size wr U2 := bl_then (bl_then hb bel) hb2; have kx := (Fr.of_below (S := fun _ => False) hbx).blk g1 (fun h => h); have z2 : U2.cell? ⟨xb, 2, none⟩ = some (.slice A2 k c2) := blk_cell kx 2; have zf : U2.frozen? ⟨xb, 2, none⟩ = false := blk_frozen kx 2; have hne : ¬ U.heap.size = xb := (by omega); have hba := hbx.setCell (p := ⟨U.heap.size, 1, none⟩) hb.size (.pointer (some ⟨nq, 0, none⟩)))
        all_goals go_wp2_with (at_builtin; refine wpL_app _ rfl _ _ _ _ rfl w.heap.size 78 _ 1 8 Tryz.underlying74 infoQM rfl (by decide) _ k _ rfl (own_below g2 (bl_alloc hba _)) _ 1 [ptr U.heap.size] rfl (Src.of Tryz.underlying74 _ _ _ _ rfl (by decide) (one_new' _ [ptr U.heap.size] _ _ (by simp)) (by simp [Value.oneCell', ptr])) (by omega) (by have := g5.size; have := hba.size; simp; simp at this; omega) ?_; intro A6 c6 V2 ho6 hg6 _; have hF : Fr (fun i => (Value.slice A2 k c2).ownBlock = some i) wr V2 := (Fr.of_below (bl_alloc hba _)).grown hg6 (fun i hi => .inr hi); have k2 := hF.blk g1 (fun hi => own_ne g2 hi g1 (by decide) rfl); have kb2 := hF.blk kb (fun hi => own_ne g2 hi kb (by decide) rfl); have e3 : V2.cell? ⟨xb, 2, none⟩ = some (.slice A2 k c2) := blk_cell k2 2; have f4 : V2.frozen? ⟨xb, 2, none⟩ = false := blk_frozen k2 2)
        all_goals exact ⟨⟨k + 1, by omega, by simp, (heap_setCell_other _ _ _ _ (fun he => blk_ne kb2 k2 (by decide) he)).trans kb2, RCO.step g1 g2 g3 g5 g6 hF ho6⟩, by simp [intOf]; omega⟩
      · have hke : k = nodes := by omega
        subst hke
        go_wp2
        go_loopw [13] (fun v W => ∃ l : Nat, l ≤ sess ∧ v = .int .i64 l ∧ W.heap[w.heap.size]? = some (.cells #[.slice A xs.length c, .int .i64 sh] 24 (0, 0)) ∧ RCO w W xb k l) (fun v _ => sess - (intOf v).toNat)
        case atStart => exact ⟨0, by omega, rfl, kb, hco⟩
        case round =>
          clear hco g1 g2 g3 g5 g6 b0 b1 kb hwl hgl
          obtain ⟨l, hll, rfl, kb, hco⟩ := hrel
          obtain ⟨d0, d1, d4, d5, us, A2, c2, A3, c3, vs, g1, g2, g3, g5, g6⟩ := id hco
          have b0 : wr.cell? ⟨w.heap.size, 0, none⟩ = some (.slice A xs.length c) := blk_cell kb 0
          have b1 : wr.cell? ⟨w.heap.size, 1, none⟩ = some (.int .i64 sh) := blk_cell kb 1
          have hwl := lt_of_blk kb
          have hgl := lt_of_blk g1
          by_cases hlt : l < sess
          · go_wp2_with (first | (go_at_call 21; refine (r21New A c xs.length sh l _).mono ?_; rintro e U2 ⟨pa, pc, rfl, hba⟩; have kx := (Fr.of_below (S := fun _ => False) hba).blk g1 (fun h => h); have z2 : U2.cell? ⟨xb, 3, none⟩ = some (.slice A3 l c3) := blk_cell kx 3; have zf : U2.frozen? ⟨xb, 3, none⟩ = false := blk_frozen kx 3) | (at_builtin; refine wpL_app _ rfl _ _ _ _ rfl w.heap.size 84 _ 1 8 Tryz.underlying75 infoQS rfl (by decide) _ l _ rfl (own_below g3 (bl_alloc hba _)) _ 1 [.pointer pa] rfl (Src.of Tryz.underlying75 _ _ _ _ rfl (by decide) (one_new _ [.pointer pa] _) (by simp [Value.oneCell'])) (by omega) (by have := g5.size; have := hba.size; simp; omega) ?_; intro A6 c6 V2 ho6 hg6 _; have hF : Fr (fun i => (Value.slice A3 l c3).ownBlock = some i) wr V2 := (Fr.of_below (bl_alloc hba _)).grown hg6 (fun i hi => .inr hi); have k2 := hF.blk g1 (fun hi => own_ne g3 hi g1 (by decide) rfl); have kb2 := hF.blk kb (fun hi => own_ne g3 hi kb (by decide) rfl); have e3 : V2.cell? ⟨xb, 3, none⟩ = some (.slice A3 l c3) := blk_cell k2 3; have f4 : V2.frozen? ⟨xb, 3, none⟩ = false := blk_frozen k2 3))
            exact ⟨⟨l + 1, by omega, by simp, (heap_setCell_other _ _ _ _ (fun he => blk_ne kb2 k2 (by decide) he)).trans kb2, RCO.stepS g1 g2 g3 g5 g6 hF ho6⟩, by simp [intOf]; omega⟩
          · go_wp2
            go_ret2
            exact ⟨_, rfl, g5⟩
end Go.Proofs.YtijhmlkehpoliaaGreatDoor
