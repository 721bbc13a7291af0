/- A node is opened on a disk without files. -/
import Derived.Test.YtijhmlkehpoliaaGreatDoorClNew
set_option linter.unusedVariables false
set_option linter.unusedSimpArgs false
namespace Go.Proofs.YtijhmlkehpoliaaGreatDoor
open Go.RowKit

/-- A round of the inner loop: j shards lie in a row of node.Open's own. -/
def NI (w V : World) (sb nb : Nat) (A : Option Addr) (c n : Nat) (sh : Int) (k : Nat) (s : Sp) (v15 v57 : Value) : Prop := ∃ (j : Nat) (A5 : Option Addr) (c5 : Nat) (vs : List Value), j ≤ sh.toNat ∧ v15 = .slice A5 j c5 ∧ v57 = .int .i64 j ∧ V.ownsRow w.heap.size 116 1 (.slice A5 j c5) j vs ∧ V.heap[sb]? = some (.cells #[.int .i64 s.ret, .int .i64 s.blk, .int .i64 s.fut] 46 (0, 0)) ∧ NO w V w.heap.size nb A c n sh k
theorem infoPS : (Tryz.prog.info? 116).map (fun i => (i.zero, i.size, i.bytes)) = some (some (.pointer none), 1, 8) := by kernel_rfl
theorem infoSS : (Tryz.prog.info? 115).map (fun i => (i.zero, i.size, i.bytes)) = some (some (.slice none 0 0), 1, 24) := by kernel_rfl
set_option maxHeartbeats 2000000 in
theorem nodeOpen (p : Nat) (A : Option Addr) (c : Nat) (xs : List Sp) (sh me : Int) (w : World) (hd : Disk0 w p) (hA : SlR w A (xs.flatMap Sp.enc)) (hok : cfgOk xs sh = true) (hme : btw 0 me 7 = true) :
    Calls Tryz.prog 16 #[.pointer (some ⟨p, 0, none⟩), .agg #[.slice A xs.length c, .int .i64 sh], .int .i64 me, .int .i64 0, .int .i64 0] w fun e w' => ∃ q, e = .returned (.tuple #[.pointer (some ⟨q, 0, none⟩), .int .i64 0]) ∧ Below w.heap.size w w' := by
  have hl := cfg_len hok
  have h7 : btw 0 0 65535 = true := rfl
  go_enter Tryz.func16, Tryz.ntmps16
  go_wp2_with (first | (go_at_call 11; refine (checkOk A c xs sh _ (by omega) (hA.below bel) hok).mono ?_; rintro e W ⟨rfl, hbW⟩; have e0 : W.cell? ⟨w.heap.size, 0, none⟩ = some (.slice A xs.length c) := (hbW.cell (by simp)).trans (by go_simp); have e1 : W.cell? ⟨w.heap.size, 1, none⟩ = some (.int .i64 sh) := (hbW.cell (by simp)).trans (by go_simp); have e2 : Below w.heap.size w W := bl_then bel hbW; have e3 : w.heap.size < W.heap.size := (by have := hbW.size; simp at this; omega)) | (go_at_call 27; refine (nfits _ _ _ _).mono ?_; rintro e w' ⟨rfl, rfl⟩; try rw [hme]; try rw [h7]))
  go_region_held3 (fun U => U.cell? ⟨w.heap.size, 0, none⟩ = some (.slice A xs.length c) ∧ U.cell? ⟨w.heap.size, 1, none⟩ = some (.int .i64 sh) ∧ Below (w.alloc (.cells #[.slice A xs.length c, .int .i64 sh] 24)).heap.size (w.alloc (.cells #[.slice A xs.length c, .int .i64 sh] 24)) U ∧ w.heap.size < U.heap.size) (first | exact ⟨by assumption, by assumption, by assumption, by assumption⟩ | exact two_alloc (by assumption) _ | exact two_alloc ⟨by assumption, by assumption, by assumption, by assumption⟩ _ | exact ⟨e0, e1, ⟨hbW.os, hbW.tape, hbW.output, hbW.size, hbW.block⟩, e3⟩) (first | (go_at_call 12; obtain ⟨s1, s2, s3, s4⟩ := ‹_ ∧ _ ∧ Below (w.alloc _).heap.size (w.alloc _) _ ∧ _›; refine (cloneSp A c xs _ (by omega) (hA.below (bl_then bel s3))).mono ?_; rintro e w' ⟨A', c', rfl, hb, hr⟩; have t1 := (hb.cell (p := ⟨w.heap.size, 0, none⟩) s4).trans s1; have t2 := (hb.cell (p := ⟨w.heap.size, 1, none⟩) s4).trans s2; have t3 := s3.trans (hb.mono s3.size); have t4 := Nat.lt_of_lt_of_le s4 hb.size; clear s1 s2 s3 s4))
  go_wp2
  have hH := ‹_ ∧ _ ∧ Below (w.alloc _).heap.size (w.alloc _) _ ∧ _›
  obtain ⟨_, _, H3, _⟩ := hH
  have hnb : w.heap.size ≤ w'.heap.size := by omega
  go_loopw [50] (fun v50 U => ∃ k : Nat, k ≤ xs.length ∧ v50 = .int .i64 k ∧ NO w U w.heap.size w'.heap.size A c xs.length sh k) (fun v50 _ => xs.length - (intOf v50).toNat)
  case atStart => exact ⟨0, by omega, rfl, none, 0, [], _, (H3.block _ (by simp)).trans (heap_alloc_new w _), new_at rfl, (by simp), rfl, own_nil _ _ _ _, bl_then bel H3, hnb⟩
  case round =>
    clear H3 t1 t2 t3 t4 hb hr
    obtain ⟨k, hk, rfl, hno⟩ := hrel
    have hbl := hno.bl
    obtain ⟨A3, c3, vs3, cs, g1, g2, g3, g4, g5, g6, g7⟩ := id hno
    have b0 : wr.cell? ⟨w.heap.size, 0, none⟩ = some (.slice A xs.length c) := blk_cell g1 0
    have b1 : wr.cell? ⟨w.heap.size, 1, none⟩ = some (.int .i64 sh) := blk_cell g1 1
    by_cases hlt : k < xs.length
    · obtain ⟨b, o, rfl, hrow⟩ := hA.below hbl (flat_ne Sp.enc_len (by omega) hlt)
      obtain ⟨a0, a1, a2⟩ := sp_at hrow k hlt
      have hws := lt_of_blk g1
      have hno' : NO w (wr.alloc (.cells #[.int .i64 xs[k].ret, .int .i64 xs[k].blk, .int .i64 xs[k].fut] 46)) w.heap.size w'.heap.size (some ⟨b, o, none⟩) c xs.length sh k := hno.below bel
      go_wp2
      have hsp0 := heap_alloc_new wr (.cells #[.int .i64 xs[k].ret, .int .i64 xs[k].blk, .int .i64 xs[k].fut] 46)
      generalize hsb : wr.heap.size = sb at *
      clear g1 g2 g3 g4 g5 b0 b1 a0 a1 a2
      go_loopw [15, 57] (fun v15 v57 V => NI w V sb w'.heap.size (some ⟨b, o, none⟩) c xs.length sh k xs[k] v15 v57) (fun _ v57 _ => sh.toNat - (intOf v57).toNat)
      case atStart => exact ⟨0, none, 0, [], by omega, rfl, rfl, own_nil _ _ _ _, hsp0, hno'⟩
      case round =>
        obtain ⟨j, A5, c5, vs, hj, rfl, rfl, ho5, hsp, hnoV⟩ := hrel
        have hshz : ((sh.toNat : Nat) : Int) = sh := by omega
        have a0 : wr.cell? ⟨sb, 0, none⟩ = some (.int .i64 xs[k].ret) := blk_cell hsp 0
        have a1 : wr.cell? ⟨sb, 1, none⟩ = some (.int .i64 xs[k].blk) := blk_cell hsp 1
        have a2 : wr.cell? ⟨sb, 2, none⟩ = some (.int .i64 xs[k].fut) := blk_cell hsp 2
        by_cases hjl : j < sh.toNat
        · go_wp2_with (first | (go_at_call 30; refine (shardOpen p _ _ xs[k] _).mono ?_; rintro e V1 ⟨q, cc, rfl, hb1⟩) | (at_builtin; refine wpL_app _ rfl _ _ _ _ rfl w.heap.size 116 _ 1 8 Tryz.underlying115 infoPS rfl (by decide) _ j vs rfl (own_below ho5 (bl_alloc hb1 _)) _ 1 [.pointer q] rfl (Src.of Tryz.underlying115 _ _ _ _ rfl (by decide) (one_new _ [.pointer q] _) (by simp [Value.oneCell'])) (by omega) (by have := hb1.size; have := hnoV.bl.size; simp; omega) ?_; intro A6 c6 V2 ho6 hg6 _))
          refine ⟨?_, ?measure⟩
          repeat apply Exists.intro
          refine ⟨?rel, rfl⟩
          case measure => simp [intOf]; omega
          case rel =>
          refine ⟨j + 1, A6, c6, _, by omega, rfl, by go_num, ho6, ?_, ?_⟩
          · have hF : Fr (fun i => (Value.slice A5 j c5).ownBlock = some i) wr V2 := (Fr.of_below (bl_alloc hb1 _)).grown hg6 (fun i hi => .inr hi)
            exact hF.blk hsp (fun hi => own_ne ho5 hi hsp (by decide) rfl)
          · have hF : Fr (fun i => (Value.slice A5 j c5).ownBlock = some i) wr V2 := (Fr.of_below (bl_alloc hb1 _)).grown hg6 (fun i hi => .inr hi)
            obtain ⟨A3, c3, vs3, cs, g1, g2, g3, g4, g5, g6, g7⟩ := id hnoV
            exact hnoV.fr hF (fun i hi => own_base ho5 _ hi) (fun hi => own_ne ho5 hi g1 (by decide) rfl) (fun hi => own_ne ho5 hi g2 (by decide) rfl) (fun i cs h hi => own_ne ho5 hi h (by decide) rfl)
        · have hje : (j : Int) = sh := by omega
          obtain ⟨A3, c3, vs3, cs, g1, g2, g3, g4, g5, g6, g7⟩ := id hnoV
          have d3 : wr.cell? ⟨w'.heap.size, 3, none⟩ = some (.slice A3 k c3) := (blk_cell g2 3).trans g4
          have f3 : wr.frozen? ⟨w'.heap.size, 3, none⟩ = false := blk_frozen g2 3
          have hnl := lt_of_blk g2
          go_wp2_with (at_builtin; refine wpL_app _ rfl _ _ _ _ rfl w.heap.size 115 _ 1 24 Tryz.underlying111 infoSS rfl (by decide) _ k vs3 rfl (own_below g5 (bl_alloc (Below.refl _ _) _)) _ 1 [.slice A5 j c5] rfl (Src.of Tryz.underlying111 _ _ _ _ rfl (by decide) (one_new _ [.slice A5 j c5] _) (by simp [Value.oneCell'])) (by omega) (by have := g6.size; simp; omega) ?_; intro A6 c6 V2 ho6 hg6 _; have hF : Fr (fun i => (Value.slice A3 k c3).ownBlock = some i) wr V2 := (Fr.of_below (bl_alloc (Below.refl _ _) _)).grown hg6 (fun i hi => .inr hi); have k2 := hF.blk g2 (fun hi => own_ne g5 hi g2 (by decide) rfl); have e3 : V2.cell? ⟨w'.heap.size, 3, none⟩ = some (.slice A3 k c3) := (blk_cell k2 3).trans g4; have f4 : V2.frozen? ⟨w'.heap.size, 3, none⟩ = false := blk_frozen k2 3)
          refine ⟨?_, ?measure⟩
          repeat apply Exists.intro
          refine ⟨?rel, rfl⟩
          case measure => simp [intOf]; omega
          case rel =>
          have hF2 : Fr (fun i => (Value.slice A3 k c3).ownBlock = some i ∨ i = w'.heap.size) wr (V2.setCell ⟨w'.heap.size, 3, none⟩ (.slice A6 (k + 1) c6)) := (hF.mono (fun i _ h => .inl h)).setCell (.inr (.inr rfl)) _
          have hSz : wr.heap.size ≤ V2.heap.size := hF.size
          refine ⟨k + 1, by omega, by go_num, A6, c6, _, _, hF2.blk g1 ?_, heap_setCell_same _ _ _ _ _ _ k2, by simpa using g3, by rw [Array.getElem?_setIfInBounds_self_of_lt (by omega)], own_fr ho6 ((Fr.refl (fun i => i = w'.heap.size) V2).setCell (.inr rfl) _) ?_, g6.trans (hF2.below g6.size ?_), g7⟩
          · rintro (h | h)
            · exact own_ne g5 h g1 (by decide) rfl
            · rw [h] at g1
              rw [g1] at g2
              simp only [Option.some.injEq, Obj.cells.injEq] at g2
              exact absurd g2.2.1 (by decide)
          · intro i _ hi he
            subst he
            exact own_ne ho6 hi k2 (by decide) rfl
          · rintro i hi (h | h)
            · have := own_base g5 _ h; omega
            · omega
    · have hdw : Disk0 wr p := hd.below hbl
      obtain ⟨v4, h4⟩ : ∃ v, cs[4]? = some v := ⟨_, Array.getElem?_eq_getElem (by omega)⟩
      obtain ⟨v5, h5⟩ : ∃ v, cs[5]? = some v := ⟨_, Array.getElem?_eq_getElem (by omega)⟩
      have hnl := lt_of_blk g2
      go_wp2_with (first | (go_at_call 31; refine (logOpen0 p _ hdw).mono ?_; rintro e V ⟨lb, rfl, hlb, hc1, hbV⟩; have k2 := (Fr.of_below (S := fun _ => False) hbV).blk g2 (fun h => h); have e4 : V.cell? ⟨w'.heap.size, 4, none⟩ = some v4 := (blk_cell k2 4).trans h4; have f4 : V.frozen? ⟨w'.heap.size, 4, none⟩ = false := blk_frozen k2 4; have e5 : V.cell? ⟨w'.heap.size, 5, none⟩ = some v5 := (blk_cell k2 5).trans h5; have f5 : V.frozen? ⟨w'.heap.size, 5, none⟩ = false := blk_frozen k2 5) | (go_at_call 32; refine (logNumber lb 1 _ (((Fr.refl (fun i => i = w'.heap.size) V).setCell (.inr rfl) _).cell (p := ⟨lb, 1, none⟩) (show ¬ lb = w'.heap.size by omega) hc1)).mono ?_; rintro e w' ⟨rfl, rfl⟩))
      have hfin : Below w.heap.size w V := g6.trans (hbV.mono g6.size)
      go_loopw [103] (fun v V' => v = .int .i64 0 ∧ Below w.heap.size w V') (fun _ _ => 0)
      case atStart => exact ⟨rfl, (hfin.setCell (p := ⟨w'.heap.size, 4, none⟩) hnb _).setCell (p := ⟨w'.heap.size, 5, none⟩) hnb _⟩
      case round =>
        obtain ⟨rfl, hB⟩ := hrel
        go_wp2
        go_ret2
        exact ⟨_, rfl, hB⟩
end Go.Proofs.YtijhmlkehpoliaaGreatDoor
