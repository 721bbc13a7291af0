/- The reference opens a node on a disk without files. -/
import Derived.Test.YtijhmlkehpoliaaGreatDoorClRef
import Derived.Deep.RegionLaw
set_option linter.unusedVariables false
set_option linter.unusedSimpArgs false
namespace Go.Proofs.YtijhmlkehpoliaaGreatDoor
open Go.RowKit

/-- 'append(s, x..)' as a step of a region that draws. -/
theorem step_app {P : Program} {w : World} {ops : Array Oper} {o : Oper} {a : Act} {K : Act → World → Prop} {Q : Exit → Act → World → Prop} {E : Prop} (hgd : o.guard = none) (s x : Operand) (t tx : TypeId)
    (ho : o.op = .call { callee := .builtin .append, args := #[s, x], argTypes := #[t, tx] })
    (base : Nat) (e : TypeId) (z : Value) (size bytes : Nat) (ht : P.underlying t = some (.slice e)) (hinfo : (P.info? e).map (fun i => (i.zero, i.size, i.bytes)) = some (some z, size, bytes)) (hzs : z.cells.size = size) (hb0 : 0 < bytes)
    (v : Value) (n : Nat) (xs : List Value) (hs : a.eval s = v) (hown : w.ownsRow base e size v n xs) (X : Value) (m : Nat) (news : List Value) (hx : a.eval x = X) (hS : Src P size tx X m news w)
    (hbytes : (n + m) * bytes ≤ 140737488355328) (hbase : base ≤ w.heap.size)
    (h : ∀ A c w', w'.ownsRow base e size (.slice A (n + m) c) (n + m) (xs ++ news) → w.grownBy w' v.ownBlock → K (a.put o.dst (.slice A (n + m) c)) w') :
    if Region.wanted o (yielded ops a.tmps) = true then Oper.wp P o a w K Q else E := by
  have hw : Region.wanted o (yielded ops a.tmps) = true := by simp [Region.wanted, hgd]
  rw [if_pos hw]
  obtain ⟨i, hi, hz, rfl, rfl⟩ := info_parts hinfo
  have h63 : n + m ≤ maxLen := by have := Nat.le_mul_of_pos_right (n + m) hb0; simp only [maxLen]; omega
  obtain ⟨v', w', hr, h2, h3, h4⟩ := run_append_src (P := P) w base t tx o.type e i z ht hi hz hzs v n xs hown X m news hS h63 hbytes hbase
  unfold Oper.wp execOp
  simp only [ho, resolve, invoke, builtin, Sem.run_bind, Sem.run_pure, Result.andThen_ok, List.map_toArray, List.map_cons, List.map_nil, hs, hx, hr]
  obtain ⟨A, c, rfl⟩ := own_shape h2
  exact h A c w' h2 h3

/-- What the reference's Open has at hand. -/
def RNO (w W : World) (bx nb : Nat) (A : Option Addr) (c n : Nat) (sh : Int) (k : Nat) : Prop := ∃ (A3 : Option Addr) (c3 : Nat) (vs : List Value) (cs : Array Value),
  W.heap[bx]? = some (.cells #[.slice A n c, .int .i64 sh] 24 (0, 0)) ∧ W.heap[nb]? = some (.cells cs 144 (0, 0)) ∧ 6 < cs.size ∧ cs[4]? = some (.slice A3 k c3) ∧
  W.ownsRow w.heap.size 145 1 (.slice A3 k c3) k vs ∧ Below w.heap.size w W ∧ w.heap.size ≤ nb
theorem RNO.bl {w W : World} {bx nb c n k : Nat} {A : Option Addr} {sh : Int} (h : RNO w W bx nb A c n sh k) : Below w.heap.size w W := by
  obtain ⟨_, _, _, _, _, _, _, _, _, h, _⟩ := h; exact h
theorem RNO.fr {S : Nat → Prop} {w W W' : World} {bx nb c n k : Nat} {A : Option Addr} {sh : Int} (h : RNO w W bx nb A c n sh k) (hf : Fr S W W') (hS : ∀ i, S i → w.heap.size ≤ i) (h1 : ¬ S bx) (h2 : ¬ S nb)
    (h3 : ∀ i cs, W.heap[i]? = some (.cells cs 145 (0, 0)) → ¬ S i) : RNO w W' bx nb A c n sh k := by
  obtain ⟨A3, c3, vs, cs, g1, g2, g3, g4, g5, g6, g7⟩ := h
  refine ⟨A3, c3, vs, cs, hf.blk g1 h1, hf.blk g2 h2, g3, g4, own_fr g5 hf ?_, g6.trans (hf.below g6.size (fun i hi hs => by have := hS i hs; omega)), g7⟩
  intro i _ hi
  obtain ⟨_, hc⟩ := own_none g5 hi
  exact h3 _ _ hc
theorem RNO.below {w W W' : World} {bx nb c n k : Nat} {A : Option Addr} {sh : Int} (h : RNO w W bx nb A c n sh k) (hf : Below W.heap.size W W') : RNO w W' bx nb A c n sh k :=
  h.fr (S := fun _ => False) (Fr.of_below hf) (fun _ h => h.elim) (fun h => h) (fun h => h) (fun _ _ _ h => h)
/-- A round of the inner loop. -/
def RNI (w V : World) (nb : Nat) (A : Option Addr) (c n : Nat) (sh : Int) (k : Nat) (v14 v15 : Value) : Prop := ∃ (j : Nat) (A5 : Option Addr) (c5 : Nat) (vs : List Value), j ≤ sh.toNat ∧ v14 = .slice A5 j c5 ∧ v15 = .int .i64 j ∧ V.ownsRow w.heap.size 146 1 (.slice A5 j c5) j vs ∧ RNO w V w.heap.size nb A c n sh k
theorem infoRP : (Tryz.prog.info? 146).map (fun i => (i.zero, i.size, i.bytes)) = some (some (.pointer none), 1, 8) := by kernel_rfl
theorem infoRS : (Tryz.prog.info? 145).map (fun i => (i.zero, i.size, i.bytes)) = some (some (.slice none 0 0), 1, 24) := by kernel_rfl
theorem refCheckOk (A : Option Addr) (c : Nat) (xs : List Sp) (sh : Int) (w : World) (hm : xs.length ≤ 9223372036854775807) (hA : SlR w A (xs.flatMap Sp.enc)) (hok : cfgOk xs sh = true) :
    Calls Tryz.prog 6 #[.agg #[.slice A xs.length c, .int .i64 sh]] w fun e w' => e = .returned (.int .i64 0) ∧ Below w.heap.size w w' := by
  refine (refCheck A c xs sh w hm hA).mono ?_
  rintro e w' ⟨rfl, hb⟩
  rw [hok]
  exact ⟨rfl, hb⟩
set_option maxHeartbeats 2000000 in
set_option maxRecDepth 100000 in
theorem rNodeOpen (p : Nat) (A : Option Addr) (c : Nat) (xs : List Sp) (sh me : Int) (w : World) (hd : RD0 w p) (hA : SlR w A (xs.flatMap Sp.enc)) (hok : cfgOk xs sh = true) (hme : btw 0 me 7 = true) :
    Calls Tryz.prog 20 #[.pointer (some ⟨p, 0, none⟩), .agg #[.slice A xs.length c, .int .i64 sh], .int .i64 me, .int .i64 0, .int .i64 0] w fun e w' => ∃ q, e = .returned (.tuple #[.pointer (some ⟨q, 0, none⟩), .int .i64 0]) ∧ Below w.heap.size w w' := by
  have hl := cfg_len hok
  have h7 : btw 0 0 65535 = true := rfl
  go_enter Tryz.func20, Tryz.ntmps20
  go_wp2_with (first | (go_at_call 6; refine (refCheckOk A c xs sh _ (by omega) (hA.below bel) hok).mono ?_; rintro e W ⟨rfl, hbW⟩; have e0 : W.cell? ⟨w.heap.size, 0, none⟩ = some (.slice A xs.length c) := (hbW.cell (by simp)).trans (by go_simp); have e1 : W.cell? ⟨w.heap.size, 1, none⟩ = some (.int .i64 sh) := (hbW.cell (by simp)).trans (by go_simp); have e2 : Below w.heap.size w W := bl_then bel hbW; have e3 : w.heap.size < W.heap.size := (by have := hbW.size; simp at this; omega)) | (go_at_call 22; refine (rfits _ _ _ _).mono ?_; rintro e w' ⟨rfl, rfl⟩; try rw [hme]; try rw [h7]))
  go_outline
  have hBn := bl_then e2 (bl_alloc (Below.refl W.heap.size W) (.cells #[.pointer (some ⟨p, 0, none⟩), .slice none 0 0, .int .i64 sh, .int .i64 me, .slice none 0 0, .pointer none, .bool false, .int .i64 0, .slice none 0 0, .slice none 0 0, .slice none 0 0, .int .i64 0, .int .i64 0, .pointer none, .int .i64 (-1), .bool false] 144))
  have k1 := heap_alloc_new W (.cells #[.pointer (some ⟨p, 0, none⟩), .slice none 0 0, .int .i64 sh, .int .i64 me, .slice none 0 0, .pointer none, .bool false, .int .i64 0, .slice none 0 0, .slice none 0 0, .slice none 0 0, .int .i64 0, .int .i64 0, .pointer none, .int .i64 (-1), .bool false] 144)
  have k0 := (hbW.block w.heap.size (by simp)).trans (heap_alloc_new w (.cells #[.slice A xs.length c, .int .i64 sh] 24))
  have k0' := (Fr.of_below (S := fun _ => False) (bl_alloc (Below.refl W.heap.size W) (.cells #[.pointer (some ⟨p, 0, none⟩), .slice none 0 0, .int .i64 sh, .int .i64 me, .slice none 0 0, .pointer none, .bool false, .int .i64 0, .slice none 0 0, .slice none 0 0, .slice none 0 0, .int .i64 0, .int .i64 0, .pointer none, .int .i64 (-1), .bool false] 144))).blk k0 (fun h => h)
  have hSl := (hA.below e2).below (bl_alloc (Below.refl W.heap.size W) (.cells #[.pointer (some ⟨p, 0, none⟩), .slice none 0 0, .int .i64 sh, .int .i64 me, .slice none 0 0, .pointer none, .bool false, .int .i64 0, .slice none 0 0, .slice none 0 0, .slice none 0 0, .int .i64 0, .int .i64 0, .pointer none, .int .i64 (-1), .bool false] 144))
  go_region_law (refine step_app rfl _ _ _ _ rfl w.heap.size 46 _ 3 24 Tryz.underlying22 infoSp rfl (by decide) (.slice none 0 0) 0 [] rfl (own_nil _ _ _ _) _ xs.length (xs.flatMap Sp.enc) rfl (Src.of Tryz.underlying22 _ _ _ _ (flat_length Sp.enc_len xs) (by decide) hSl (sp_one xs)) (by omega) (by have := hBn.size; simpa using this) ?_; intro A' c' U ho hg; have hF : Fr (fun _ => False) _ U := (Fr.refl _ _).grown hg (fun i hi => by cases hi); have u1 := hF.blk k1 (fun h => h); have u0 := hF.blk k0' (fun h => h); have v1 : U.cell? ⟨W.heap.size, 1, none⟩ = some (.slice none 0 0) := blk_cell u1 1; have vf : U.frozen? ⟨W.heap.size, 1, none⟩ = false := blk_frozen u1 1)
  all_goals
    go_wp2
    have hnb : w.heap.size ≤ W.heap.size := by omega
    have hBU : Below w.heap.size w U := bl_then (show Below w.heap.size w (World.drew _) from bl_drewN hBn 1) (hF.below (Nat.le_refl _) (fun _ _ h => h))
    generalize hnbk : W.heap.size = nb at *
    go_loopw [13] (fun v13 V => ∃ k : Nat, k ≤ xs.length ∧ v13 = .int .i64 k ∧ RNO w V w.heap.size nb A c xs.length sh k) (fun v13 _ => xs.length - (intOf v13).toNat)
    case atStart =>
      refine ⟨0, by omega, rfl, none, 0, [], _, ?_, heap_setCell_same _ _ _ _ _ _ u1, by simp, rfl, own_nil _ _ _ _, hBU.setCell (p := ⟨nb, 1, none⟩) hnb _, hnb⟩
      rw [heap_setCell_other _ _ _ _ (show w.heap.size ≠ nb by omega)]
      exact u0
    case round =>
      clear u0 u1 v1 vf hF hBU k0 k1 k0' hBn hSl ho hg
      obtain ⟨k, hk, rfl, hno⟩ := hrel
      have hbl := hno.bl
      obtain ⟨A3, c3, vs3, cs, g1, g2, g3, g4, g5, g6, g7⟩ := id hno
      have b0 : wr.cell? ⟨w.heap.size, 0, none⟩ = some (.slice A xs.length c) := blk_cell g1 0
      by_cases hlt : k < xs.length
      · go_wp2
        have hno' : RNO w (wr.alloc (.cells #[] 146)) w.heap.size nb A c xs.length sh k := hno.below bel
        have ho' : (wr.alloc (.cells #[] 146)).ownsRow w.heap.size 146 1 (.slice (some ⟨wr.heap.size, 0, none⟩) 0 0) 0 [] := ⟨by simp, .inr ⟨wr.heap.size, 0, #[], rfl, hbl.size, heap_alloc_new wr _, Nat.le_refl _, by decide, rfl, rfl⟩⟩
        go_loopw [14, 15] (fun v14 v15 V => RNI w V nb A c xs.length sh k v14 v15) (fun _ v15 _ => sh.toNat - (intOf v15).toNat)
        case atStart => exact ⟨0, _, 0, [], by omega, rfl, rfl, ho', hno'⟩
        case round =>
          clear hno hno' ho' g1 g2 g3 g4 g5 g6 b0 hbl
          obtain ⟨j, A5, c5, vs, hj, rfl, rfl, ho5, hnoV⟩ := hrel
          have hbV := hnoV.bl
          have hshz : ((sh.toNat : Nat) : Int) = sh := by omega
          obtain ⟨A3, c3, vs3, cs, g1, g2, g3, g4, g5, g6, g7⟩ := id hnoV
          have b0 : wr.cell? ⟨w.heap.size, 0, none⟩ = some (.slice A xs.length c) := blk_cell g1 0
          have b1 : wr.cell? ⟨w.heap.size, 1, none⟩ = some (.int .i64 sh) := blk_cell g1 1
          by_cases hjl : j < sh.toNat
          · obtain ⟨b, o, rfl, hrow⟩ := hA.below hbV (flat_ne Sp.enc_len (by omega) hlt)
            obtain ⟨a0, a1, a2⟩ := sp_at hrow k hlt
            go_wp2_with (first | (go_at_call 39; refine (r12Open p _ _ xs[k] _).mono ?_; rintro e V1 ⟨q, cc, rfl, hb1⟩) | (at_builtin; refine wpL_app _ rfl _ _ _ _ rfl w.heap.size 146 _ 1 8 Tryz.underlying145 infoRP rfl (by decide) _ j vs rfl (own_below ho5 (bl_alloc hb1 _)) _ 1 [.pointer q] rfl (Src.of Tryz.underlying145 _ _ _ _ rfl (by decide) (one_new _ [.pointer q] _) (by simp [Value.oneCell'])) (by omega) (by have := hb1.size; have := hbV.size; simp; omega) ?_; intro A6 c6 V2 ho6 hg6 _))
            have hF : Fr (fun i => (Value.slice A5 j c5).ownBlock = some i) wr V2 := (Fr.of_below (bl_alloc hb1 _)).grown hg6 (fun i hi => .inr hi)
            exact ⟨⟨j + 1, A6, c6, _, by omega, rfl, by go_num, ho6, hnoV.fr hF (fun i hi => own_base ho5 _ hi) (fun hi => own_ne ho5 hi g1 (by decide) rfl) (fun hi => own_ne ho5 hi g2 (by decide) rfl) (fun i cs h hi => own_ne ho5 hi h (by decide) rfl)⟩, by simp [intOf]; omega⟩
          · have hje : (j : Int) = sh := by omega
            have d3 : wr.cell? ⟨nb, 4, none⟩ = some (.slice A3 k c3) := (blk_cell g2 4).trans g4
            have f3 : wr.frozen? ⟨nb, 4, none⟩ = false := blk_frozen g2 4
            have hnl := lt_of_blk g2
            go_wp2_with (at_builtin; refine wpL_app _ rfl _ _ _ _ rfl w.heap.size 145 _ 1 24 Tryz.underlying139 infoRS rfl (by decide) _ k vs3 rfl (own_below g5 (bl_alloc (Below.refl _ _) _)) _ 1 [.slice A5 j c5] rfl (Src.of Tryz.underlying139 _ _ _ _ rfl (by decide) (one_new _ [.slice A5 j c5] _) (by simp [Value.oneCell'])) (by omega) (by have := g6.size; simp; omega) ?_; intro A6 c6 V2 ho6 hg6 _; have hF : Fr (fun i => (Value.slice A3 k c3).ownBlock = some i) wr V2 := (Fr.of_below (bl_alloc (Below.refl _ _) _)).grown hg6 (fun i hi => .inr hi); have k2 := hF.blk g2 (fun hi => own_ne g5 hi g2 (by decide) rfl); have e3 : V2.cell? ⟨nb, 4, none⟩ = some (.slice A3 k c3) := (blk_cell k2 4).trans g4; have f4 : V2.frozen? ⟨nb, 4, none⟩ = false := blk_frozen k2 4)
            have hF2 : Fr (fun i => (Value.slice A3 k c3).ownBlock = some i ∨ i = nb) wr (V2.setCell ⟨nb, 4, none⟩ (.slice A6 (k + 1) c6)) := (hF.mono (fun i _ h => .inl h)).setCell (.inr (.inr rfl)) _
            refine ⟨⟨k + 1, by omega, by go_num, A6, c6, _, _, hF2.blk g1 ?_, heap_setCell_same _ _ _ _ _ _ k2, by simpa using g3, by rw [Array.getElem?_setIfInBounds_self_of_lt (by omega)], own_fr ho6 ((Fr.refl (fun i => i = nb) V2).setCell (.inr rfl) _) ?_, g6.trans (hF2.below g6.size ?_), g7⟩, by simp [intOf]; omega⟩
            · rintro (h | h)
              · exact own_ne g5 h g1 (by decide) rfl
              · exact blk_ne g1 g2 (by decide) h
            · intro i _ hi he
              subst he
              exact own_ne ho6 hi k2 (by decide) rfl
            · rintro i hi (h | h)
              · have := own_base g5 _ h; omega
              · omega
      · have hdw : RD0 wr p := hd.below hbl
        obtain ⟨v5, h5⟩ : ∃ v, cs[5]? = some v := ⟨_, Array.getElem?_eq_getElem (by omega)⟩
        obtain ⟨v6, h6⟩ : ∃ v, cs[6]? = some v := ⟨_, Array.getElem?_eq_getElem (by omega)⟩
        have hnl := lt_of_blk g2
        go_wp2_with (first | (go_at_call 40; refine (r09Open p _ hdw).mono ?_; rintro e V ⟨lq, A8, c8, rfl, hbV⟩; have hdV := hdw.below hbV; have k2 := (Fr.of_below (S := fun _ => False) hbV).blk g2 (fun h => h); have e5 : V.cell? ⟨nb, 5, none⟩ = some v5 := (blk_cell k2 5).trans h5; have f5 : V.frozen? ⟨nb, 5, none⟩ = false := blk_frozen k2 5; have k3 := heap_setCell_same _ nb 5 _ _ (.pointer lq) k2; have hdV2 : RD0 (V.setCell ⟨nb, 5, none⟩ (.pointer lq)) p := (by obtain ⟨room, hr⟩ := hdV; exact ⟨room, (heap_setCell_other _ _ _ _ (fun he => blk_ne hr k2 (by decide) he)).trans hr⟩)) | (go_at_call 41; refine (r09Numbers p _ hdV2).mono ?_; rintro e V3 ⟨A9, c9, rfl, hb3⟩; have k4 := (Fr.of_below (S := fun _ => False) hb3).blk k3 (fun h => h); have e6 : V3.cell? ⟨nb, 6, none⟩ = some v6 := (blk_cell k4 6).trans (by rw [Array.getElem?_setIfInBounds_ne (by decide)]; exact h6); have f6 : V3.frozen? ⟨nb, 6, none⟩ = false := blk_frozen k4 6))
        have hfin : Below w.heap.size w V3 := bl_then ((bl_then g6 hbV).setCell (p := ⟨nb, 5, none⟩) hnb (.pointer lq)) hb3
        go_loopw [20] (fun v V' => v = .int .i64 0 ∧ Below w.heap.size w V') (fun _ _ => 0)
        case atStart => exact ⟨rfl, hfin.setCell (p := ⟨nb, 6, none⟩) hnb _⟩
        case round =>
          obtain ⟨rfl, hB⟩ := hrel
          go_wp2
          go_ret2
          exact ⟨_, rfl, hB⟩
end Go.Proofs.YtijhmlkehpoliaaGreatDoor
