/- A new cluster. -/
import Derived.Test.YtijhmlkehpoliaaGreatDoorClNodeO
set_option linter.unusedVariables false
set_option linter.unusedSimpArgs false
namespace Go.Proofs.YtijhmlkehpoliaaGreatDoor
open Go.RowKit

theorem IsNet0.below {w w' : World} {p : Nat} (h : IsNet0 w p) (hf : Below w.heap.size w w') : IsNet0 w' p := (Fr.of_below (S := fun _ => False) hf).blk h (fun h => h)
theorem Kv0.below {w w' : World} {p : Nat} (h : Kv0 w p) (hf : Below w.heap.size w w') : Kv0 w' p := by
  obtain ⟨q, h⟩ := h; exact ⟨q, (Fr.of_below (S := fun _ => False) hf).blk h (fun h => h)⟩
theorem netNew (w : World) : Calls Tryz.prog 13 #[] w fun e w' => ∃ q, e = .returned (.pointer (some ⟨q, 0, none⟩)) ∧ IsNet0 w' q ∧ Below w.heap.size w w' := by
  refine (newNet w).mono ?_
  rintro e w' ⟨rfl, rfl⟩
  exact ⟨_, rfl, heap_alloc_new _ _, bel⟩
theorem sl_bel {w w' : World} {A : Option Addr} {xs : List Sp} (hf : Below w.heap.size w w') (h : SlR w A (xs.flatMap Sp.enc)) : SlR w' A (xs.flatMap Sp.enc) := h.below hf
theorem one_new' (w : World) (cs : List Value) (t : TypeId) (n : Nat) (hn : n = w.heap.size) : SlR (w.alloc (.cells cs.toArray t)) (some ⟨n, 0, none⟩) cs := by
  subst hn
  exact fun _ => ⟨_, _, rfl, fun j u hj => by rw [blk_cell (heap_alloc_new w _), Nat.zero_add]; simpa using hj⟩
theorem two_below {n i j : Nat} {w W W' : World} {v u : Value} (h : W.cell? ⟨n, i, none⟩ = some v ∧ W.cell? ⟨n, j, none⟩ = some u ∧ Below w.heap.size w W ∧ n < W.heap.size) (hb : Below W.heap.size W W') :
    W'.cell? ⟨n, i, none⟩ = some v ∧ W'.cell? ⟨n, j, none⟩ = some u ∧ Below w.heap.size w W' ∧ n < W'.heap.size :=
  ⟨(hb.cell h.2.2.2).trans h.1, (hb.cell h.2.2.2).trans h.2.1, bl_then h.2.2.1 hb, Nat.lt_of_lt_of_le h.2.2.2 hb.size⟩

/-- A machine whose node is up. -/
def Mach (w : World) (m : Nat) : Prop := ∃ d q, w.heap[m]? = some (.cells #[.pointer d, .pointer (some q), .int .i64 0, .int .i64 0, .bool false] 60 (0, 0))
def ptr (m : Nat) : Value := .pointer (some ⟨m, 0, none⟩)
theorem Mach.fr {S : Nat → Prop} {w w' : World} {m : Nat} (h : Mach w m) (hf : Fr S w w') (hs : ∀ i cs, w.heap[i]? = some (.cells cs 60 (0, 0)) → ¬ S i) : Mach w' m := by
  obtain ⟨d, q, h⟩ := h; exact ⟨d, q, hf.blk h (hs _ _ h)⟩
/-- A cluster under way: k machines, l sessions. -/
def CO (W1 W : World) (xb : Nat) (c0 c1 c4 c5 : Value) (k l : Nat) : Prop := ∃ (ms : List Nat) (A2 : Option Addr) (c2 : Nat) (A3 : Option Addr) (c3 : Nat) (vs : List Value),
  W.heap[xb]? = some (.cells #[c0, c1, .slice A2 k c2, .slice A3 l c3, c4, c5] 56 (0, 0)) ∧ W.ownsRow W1.heap.size 57 1 (.slice A2 k c2) k (ms.map ptr) ∧ W.ownsRow W1.heap.size 63 1 (.slice A3 l c3) l vs ∧
  (∀ m ∈ ms, Mach W m) ∧ Below W1.heap.size W1 W ∧ W1.heap.size ≤ xb
theorem blk_ne {W : World} {a b : Nat} {t u : TypeId} {cs ds : Array Value} {f g : Nat × Nat} (h : W.heap[a]? = some (.cells cs t f)) (k : W.heap[b]? = some (.cells ds u g)) (ht : t ≠ u) : a ≠ b := by
  rintro rfl
  rw [h] at k
  simp only [Option.some.injEq, Obj.cells.injEq] at k
  exact ht k.2.1
theorem own_none {W : World} {base n size k : Nat} {e : TypeId} {v : Value} {xs : List Value} (h : W.ownsRow base e size v n xs) (hv : v.ownBlock = some k) : ∃ cs, W.heap[k]? = some (.cells cs e (0, 0)) := by
  obtain ⟨_, h | ⟨g, cap, d, e, _, hg, _⟩⟩ := h
  · rw [h.1] at hv; cases hv
  · rw [e] at hv
    simp only [Value.ownBlock, Option.map_some, Option.some.injEq] at hv
    subst hv
    exact ⟨_, hg⟩
section
variable {W1 wr V2 : World} {xb k l c2 c3 c6 mb : Nat} {c0 c1 c4 c5 : Value} {ms : List Nat} {A2 A3 A6 : Option Addr} {vs : List Value}
theorem CO.step (g1 : wr.heap[xb]? = some (.cells #[c0, c1, .slice A2 k c2, .slice A3 l c3, c4, c5] 56 (0, 0))) (g2 : wr.ownsRow W1.heap.size 57 1 (.slice A2 k c2) k (ms.map ptr)) (g3 : wr.ownsRow W1.heap.size 63 1 (.slice A3 l c3) l vs)
    (g4 : ∀ m ∈ ms, Mach wr m) (g5 : Below W1.heap.size W1 wr) (g6 : W1.heap.size ≤ xb) (hF : Fr (fun i => (Value.slice A2 k c2).ownBlock = some i) wr V2) (hm : Mach V2 mb) (ho6 : V2.ownsRow W1.heap.size 57 1 (.slice A6 (k + 1) c6) (k + 1) (ms.map ptr ++ [ptr mb])) :
    CO W1 (V2.setCell ⟨xb, 2, none⟩ (.slice A6 (k + 1) c6)) xb c0 c1 c4 c5 (k + 1) l := by
  have k2 := hF.blk g1 (fun hi => own_ne g2 hi g1 (by decide) rfl)
  have hX : Fr (fun i => i = xb) V2 (V2.setCell ⟨xb, 2, none⟩ (.slice A6 (k + 1) c6)) := (Fr.refl (fun i => i = xb) V2).setCell (.inr rfl) _
  have hF2 : Fr (fun i => (Value.slice A2 k c2).ownBlock = some i ∨ i = xb) wr (V2.setCell ⟨xb, 2, none⟩ (.slice A6 (k + 1) c6)) := (hF.mono (fun i _ h => .inl h)).setCell (.inr (.inr rfl)) _
  refine ⟨ms ++ [mb], A6, c6, A3, c3, vs, (heap_setCell_same _ _ _ _ _ _ k2).trans rfl, ?_, own_fr g3 hF2 ?_, ?_, g5.trans (hF2.below g5.size ?_), g6⟩
  · rw [List.map_append]
    refine own_fr ho6 hX ?_
    rintro i _ hi rfl
    exact own_ne ho6 hi k2 (by decide) rfl
  · rintro i _ hi (h | rfl)
    · obtain ⟨_, hc⟩ := own_none g3 hi
      exact own_ne g2 h hc (by decide) rfl
    · exact own_ne g3 hi g1 (by decide) rfl
  · intro m hm'
    rcases List.mem_append.1 hm' with h | h
    · refine (g4 m h).fr hF2 ?_
      rintro i cs hc (h | rfl)
      · exact own_ne g2 h hc (by decide) rfl
      · exact blk_ne hc g1 (by decide) rfl
    · simp only [List.mem_singleton] at h
      subst h
      refine hm.fr hX ?_
      rintro i cs hc rfl
      exact blk_ne hc k2 (by decide) rfl
  · rintro i hi (h | h)
    · have := own_base g2 _ h; omega
    · omega
theorem CO.stepS (g1 : wr.heap[xb]? = some (.cells #[c0, c1, .slice A2 k c2, .slice A3 l c3, c4, c5] 56 (0, 0))) (g2 : wr.ownsRow W1.heap.size 57 1 (.slice A2 k c2) k (ms.map ptr)) (g3 : wr.ownsRow W1.heap.size 63 1 (.slice A3 l c3) l vs)
    (g4 : ∀ m ∈ ms, Mach wr m) (g5 : Below W1.heap.size W1 wr) (g6 : W1.heap.size ≤ xb) (hF : Fr (fun i => (Value.slice A3 l c3).ownBlock = some i) wr V2) {us : List Value} (ho6 : V2.ownsRow W1.heap.size 63 1 (.slice A6 (l + 1) c6) (l + 1) us) :
    CO W1 (V2.setCell ⟨xb, 3, none⟩ (.slice A6 (l + 1) c6)) xb c0 c1 c4 c5 k (l + 1) := by
  have k2 := hF.blk g1 (fun hi => own_ne g3 hi g1 (by decide) rfl)
  have hX : Fr (fun i => i = xb) V2 (V2.setCell ⟨xb, 3, none⟩ (.slice A6 (l + 1) c6)) := (Fr.refl (fun i => i = xb) V2).setCell (.inr rfl) _
  have hF2 : Fr (fun i => (Value.slice A3 l c3).ownBlock = some i ∨ i = xb) wr (V2.setCell ⟨xb, 3, none⟩ (.slice A6 (l + 1) c6)) := (hF.mono (fun i _ h => .inl h)).setCell (.inr (.inr rfl)) _
  refine ⟨ms, A2, c2, A6, c6, us, (heap_setCell_same _ _ _ _ _ _ k2).trans rfl, own_fr g2 hF2 ?_, own_fr ho6 hX ?_, ?_, g5.trans (hF2.below g5.size ?_), g6⟩
  · rintro i _ hi (h | rfl)
    · obtain ⟨_, hc⟩ := own_none g2 hi
      exact own_ne g3 h hc (by decide) rfl
    · exact own_ne g2 hi g1 (by decide) rfl
  · rintro i _ hi rfl
    exact own_ne ho6 hi k2 (by decide) rfl
  · intro m hm'
    refine (g4 m hm').fr hF2 ?_
    rintro i cs hc (h | rfl)
    · exact own_ne g3 h hc (by decide) rfl
    · exact blk_ne hc g1 (by decide) rfl
  · rintro i hi (h | h)
    · have := own_base g3 _ h; omega
    · omega
end
/-- A cluster that is open: its k machines are up; its net and its store are empty. -/
def Clus (W : World) (x k : Nat) : Prop := ∃ (ms : List Nat) (A2 : Option Addr) (c2 : Nat) (v3 : Value) (nb sb : Nat) (c0 c1 : Value),
  W.heap[x]? = some (.cells #[c0, c1, .slice A2 k c2, v3, .pointer (some ⟨nb, 0, none⟩), .pointer (some ⟨sb, 0, none⟩)] 56 (0, 0)) ∧ SlR W A2 (ms.map ptr) ∧ ms.length = k ∧ (∀ m ∈ ms, Mach W m) ∧ IsNet0 W nb ∧ Kv0 W sb
theorem infoPM : (Tryz.prog.info? 57).map (fun i => (i.zero, i.size, i.bytes)) = some (some (.pointer none), 1, 8) := by kernel_rfl
theorem infoPSe : (Tryz.prog.info? 63).map (fun i => (i.zero, i.size, i.bytes)) = some (some (.pointer none), 1, 8) := by kernel_rfl
/-- Which clusters there may be. -/
def clOk (xs : List Sp) (sh nodes sess : Int) : Bool := cfgOk xs sh && (btw 3 nodes 8 && btw 1 sess 4)

set_option maxHeartbeats 2000000 in
theorem clNewNo (A : Option Addr) (c : Nat) (xs : List Sp) (sh nodes sess room : Int) (w : World) (hm : xs.length ≤ 9223372036854775807) (hA : SlR w A (xs.flatMap Sp.enc)) (hno : clOk xs sh nodes sess = false) :
    Calls Tryz.prog 4 #[.agg #[.slice A xs.length c, .int .i64 sh], .int .i64 nodes, .int .i64 sess, .int .i64 room] w fun e w' => e = .returned (.tuple #[.pointer none, .int .i64 1]) ∧ Below w.heap.size w w' := by
  go_enter Tryz.func4, Tryz.ntmps4
  go_wp2_with (go_at_call 11; refine (nodeCheck A c xs sh _ hm (hA.below bel)).mono ?_; rintro e W ⟨rfl, hbW⟩; have e2 : Below w.heap.size w W := bl_then bel hbW; obtain ⟨q, hq, hq2⟩ : ∃ q, q = errIf (cfgOk xs sh) ∧ (q = 0 → cfgOk xs sh = true) := ⟨_, rfl, by cases cfgOk xs sh <;> simp [errIf]⟩; rw [← hq])
  all_goals (try (go_ret2; exact ⟨rfl, e2⟩))
  exfalso
  have hc := hq2 (by rw [hq]; assumption)
  simp only [clOk, hc, btw, Bool.true_and, Bool.and_eq_false_iff, decide_eq_false_iff_not] at hno
  omega

set_option maxHeartbeats 4000000 in
theorem clNew (A : Option Addr) (c : Nat) (xs : List Sp) (sh : Int) (nodes sess : Nat) (room : Int) (w : World) (hA : SlR w A (xs.flatMap Sp.enc)) (hok : clOk xs sh nodes sess = true) :
    Calls Tryz.prog 4 #[.agg #[.slice A xs.length c, .int .i64 sh], .int .i64 nodes, .int .i64 sess, .int .i64 room] w fun e w' => ∃ x, e = .returned (.tuple #[.pointer (some ⟨x, 0, none⟩), .int .i64 0]) ∧ Clus w' x nodes ∧ Below w.heap.size w w' := by
  obtain ⟨hok, h3, h4⟩ : cfgOk xs sh = true ∧ btw 3 nodes 8 = true ∧ btw 1 sess 4 = true := by simpa [clOk, Bool.and_eq_true] using hok
  have hl := cfg_len hok
  have h3' := btw_t h3
  have h4' := btw_t h4
  go_enter Tryz.func4, Tryz.ntmps4
  go_wp2_with (go_at_call 11; refine (checkOk A c xs sh _ (by omega) (hA.below bel) hok).mono ?_; rintro e W ⟨rfl, hbW⟩; have e0 : W.cell? ⟨w.heap.size, 0, none⟩ = some (.slice A xs.length c) := (hbW.cell (by simp)).trans (by go_simp); have e1 : W.cell? ⟨w.heap.size, 1, none⟩ = some (.int .i64 sh) := (hbW.cell (by simp)).trans (by go_simp); have e2 : Below w.heap.size w W := bl_then bel hbW; have e3 : w.heap.size < W.heap.size := (by have := hbW.size; simp at this; omega))
  go_region_held3 (fun U => U.cell? ⟨w.heap.size, 0, none⟩ = some (.slice A xs.length c) ∧ U.cell? ⟨w.heap.size, 1, none⟩ = some (.int .i64 sh) ∧ Below (w.alloc (.cells #[.slice A xs.length c, .int .i64 sh] 24)).heap.size (w.alloc (.cells #[.slice A xs.length c, .int .i64 sh] 24)) U ∧ w.heap.size < U.heap.size) (first | assumption | exact two_alloc (by assumption) _ | exact ⟨e0, e1, ⟨hbW.os, hbW.tape, hbW.output, hbW.size, hbW.block⟩, e3⟩) (first
    | (go_at_call 12; have hS := ‹_ ∧ _ ∧ Below (w.alloc _).heap.size (w.alloc _) _ ∧ _›; refine (cloneSp A c xs _ (by omega) (hA.below (bl_then bel hS.2.2.1))).mono ?_; rintro e w' ⟨A', c', rfl, hb, hr⟩; have hS' := two_below hS hb; try have n1 := IsNet0.below ‹IsNet0 _ _› hb; try have k1 := Kv0.below ‹Kv0 _ _› hb;  try have d1 := Disk0.below ‹Disk0 _ _› hb; clear hS)
    | (go_at_call 13; have hS := ‹_ ∧ _ ∧ Below (w.alloc _).heap.size (w.alloc _) _ ∧ _›; refine (netNew _).mono ?_; rintro e w' ⟨q, rfl, hn, hb⟩; have s1 := hr.below hb; have hS' := two_below hS hb; try have n1 := IsNet0.below ‹IsNet0 _ _› hb; try have k1 := Kv0.below ‹Kv0 _ _› hb;  try have d1 := Disk0.below ‹Disk0 _ _› hb; clear hS)
    | (go_at_call 15; have hS := ‹_ ∧ _ ∧ Below (w.alloc _).heap.size (w.alloc _) _ ∧ _›; refine (newDisk _ _).mono ?_; rintro e w' ⟨p, rfl, hp1, hp2, hd, hb⟩; have s2 := s1.below hb; have hS' := two_below hS hb; try have n1 := IsNet0.below ‹IsNet0 _ _› hb; try have k1 := Kv0.below ‹Kv0 _ _› hb;  try have d1 := Disk0.below ‹Disk0 _ _› hb; clear hS)
    | (go_at_call 14; have hS := ‹_ ∧ _ ∧ Below (w.alloc _).heap.size (w.alloc _) _ ∧ _›; refine (kvOpen _ _ ‹_›).mono ?_; rintro e w' ⟨q, rfl, hq1, hq2, hkv, hb⟩; have s3 := s2.below hb; have hS' := two_below hS hb; try have n1 := IsNet0.below ‹IsNet0 _ _› hb; try have k1 := Kv0.below ‹Kv0 _ _› hb;  try have d1 := Disk0.below ‹Disk0 _ _› hb; clear hS))
  go_wp2
  obtain ⟨_, _, H3, _⟩ := ‹_ ∧ _ ∧ Below (w.alloc _).heap.size (w.alloc _) _ ∧ _›
  have hW1 : Below w.heap.size w w' := bl_then bel hS'.2.2.1
  have hs1 : SlR w' A' (xs.flatMap Sp.enc) := s3
  have hxb : w'.heap.size ≤ w'.heap.size := Nat.le_refl _
  go_loopw [47] (fun v W => ∃ k qn : Nat, k ≤ nodes ∧ v = .int .i64 k ∧ IsNet0 w' qn ∧ CO w' W w'.heap.size (.slice A' xs.length c') (.int .i64 sh) (.pointer (some ⟨qn, 0, none⟩)) (.pointer (some ⟨q, 0, none⟩)) k 0) (fun v _ => nodes - (intOf v).toNat)
  case atStart => exact ⟨0, _, by omega, rfl, n1, [], none, 0, none, 0, [], new_at rfl, own_nil _ _ _ _, own_nil _ _ _ _, by simp, bel, Nat.le_refl _⟩
  case round =>
    clear hb H3 hS' hbW e0 e1
    obtain ⟨k, qn, hk, rfl, hqn, hco⟩ := hrel
    obtain ⟨ms, A2, c2, A3, c3, vs, g1, g2, g3, g4, g5, g6⟩ := id hco
    have b0 : wr.cell? ⟨w'.heap.size, 0, none⟩ = some (.slice A' xs.length c') := blk_cell g1 0
    have b1 : wr.cell? ⟨w'.heap.size, 1, none⟩ = some (.int .i64 sh) := blk_cell g1 1
    by_cases hlt : k < nodes
    · go_wp2_with (go_at_call 15; refine (newDisk _ _).mono ?_; rintro e U ⟨p, rfl, hp1, hp2, hd, hb⟩; have x0 := (hb.cell (p := ⟨w'.heap.size, 0, none⟩) (lt_of_blk g1)).trans b0; have x1 := (hb.cell (p := ⟨w'.heap.size, 1, none⟩) (lt_of_blk g1)).trans b1; have hxl := Nat.lt_of_lt_of_le (lt_of_blk g1) hb.size)
      have hU : SlR U A' (xs.flatMap Sp.enc) := hs1.below (g5.trans (hb.mono g5.size))
      have hme : btw 0 k 7 = true := by unfold btw; simp; omega
      go_region_with (go_at_call 16; refine (nodeOpen p A' c' xs sh k _ (hd.below bel) (hU.below bel) hok hme).mono ?_; rintro e U2 ⟨nq, rfl, hb2⟩; have y1 : U2.cell? ⟨U.heap.size, 1, none⟩ = some (.pointer none) := (hb2.cell (by simp)).trans (by go_simp); have hUl : U.heap.size < U2.heap.size := (by have := hb2.size; simp at this; omega); have yf : U2.frozen? ⟨U.heap.size, 1, none⟩ = false := ((Fr.of_below (S := fun _ => False) hb2).frozen (p := ⟨U.heap.size, 1, none⟩) (by simp) (fun h => h)).trans (by go_simp); have hbx : Below wr.heap.size wr U2 := bl_then (bl_then hb bel) hb2; have kx := (Fr.of_below (S := fun _ => False) hbx).blk g1 (fun h => h); have z2 : U2.cell? ⟨w'.heap.size, 2, none⟩ = some (.slice A2 k c2) := blk_cell kx 2; have zf : U2.frozen? ⟨w'.heap.size, 2, none⟩ = false := blk_frozen kx 2; have km := (Fr.of_below (S := fun _ => False) hb2).blk (b := U.heap.size) (heap_alloc_new U (.cells #[.pointer (some ⟨p, 0, none⟩), .pointer none, .int .i64 0, .int .i64 0, .bool false] 60)) (fun h => h); have hne : ¬ U.heap.size = w'.heap.size := (by omega); have hba := hbx.setCell (p := ⟨U.heap.size, 1, none⟩) hb.size (.pointer (some ⟨nq, 0, none⟩)))
      all_goals go_wp2_with (at_builtin; refine wpL_app _ rfl _ _ _ _ rfl w'.heap.size 57 _ 1 8 Tryz.underlying53 infoPM rfl (by decide) _ k _ rfl (own_below g2 (bl_alloc hba _)) _ 1 [ptr U.heap.size] rfl (Src.of Tryz.underlying53 _ _ _ _ rfl (by decide) (one_new' _ [ptr U.heap.size] _ _ (by simp)) (by simp [Value.oneCell', ptr])) (by omega) (by have := g5.size; have := hba.size; simp; simp at this; omega) ?_; intro A6 c6 V2 ho6 hg6 _; have hF : Fr (fun i => (Value.slice A2 k c2).ownBlock = some i) wr V2 := (Fr.of_below (bl_alloc hba _)).grown hg6 (fun i hi => .inr hi); have k2 := hF.blk g1 (fun hi => own_ne g2 hi g1 (by decide) rfl); have e3 : V2.cell? ⟨w'.heap.size, 2, none⟩ = some (.slice A2 k c2) := blk_cell k2 2; have f4 : V2.frozen? ⟨w'.heap.size, 2, none⟩ = false := blk_frozen k2 2)
      all_goals
        have hG : Fr (fun i => (Value.slice A2 k c2).ownBlock = some i) (U2.setCell ⟨U.heap.size, 1, none⟩ (.pointer (some ⟨nq, 0, none⟩))) V2 := (Fr.of_below (bl_alloc (Below.refl _ _) _)).grown hg6 (fun i hi => .inr hi)
        have hm : Mach V2 U.heap.size := Mach.fr (w := U2.setCell ⟨U.heap.size, 1, none⟩ (.pointer (some ⟨nq, 0, none⟩))) ⟨_, _, (heap_setCell_same _ _ _ _ _ _ km).trans rfl⟩ hG (fun i cs hc hi => own_ne (own_below g2 hba) hi hc (by decide) rfl)
        exact ⟨⟨k + 1, qn, by omega, by simp, hqn, CO.step g1 g2 g3 g4 g5 g6 hF hm ho6⟩, by simp [intOf]; omega⟩
    · have hke : k = nodes := by omega
      subst hke
      go_wp2
      go_loopw [82] (fun v W => ∃ l : Nat, l ≤ sess ∧ v = .int .i64 l ∧ CO w' W w'.heap.size (.slice A' xs.length c') (.int .i64 sh) (.pointer (some ⟨qn, 0, none⟩)) (.pointer (some ⟨q, 0, none⟩)) k l) (fun v _ => sess - (intOf v).toNat)
      case atStart => exact ⟨0, by omega, rfl, hco⟩
      case round =>
        clear hco g1 g2 g3 g4 g5 g6 b0 b1
        obtain ⟨l, hll, rfl, hco⟩ := hrel
        obtain ⟨ms, A2, c2, A3, c3, vs, g1, g2, g3, g4, g5, g6⟩ := id hco
        have b0 : wr.cell? ⟨w'.heap.size, 0, none⟩ = some (.slice A' xs.length c') := blk_cell g1 0
        have b1 : wr.cell? ⟨w'.heap.size, 1, none⟩ = some (.int .i64 sh) := blk_cell g1 1
        have hxl := lt_of_blk g1
        by_cases hlt : l < sess
        · go_wp2_with (first | (go_at_call 17; refine (sessNew A' c' xs sh l _ (by omega) (hs1.below g5)).mono ?_; rintro e U2 ⟨pa, pc, rfl, hba⟩; have kx := (Fr.of_below (S := fun _ => False) hba).blk g1 (fun h => h); have z2 : U2.cell? ⟨w'.heap.size, 3, none⟩ = some (.slice A3 l c3) := blk_cell kx 3; have zf : U2.frozen? ⟨w'.heap.size, 3, none⟩ = false := blk_frozen kx 3) | (at_builtin; refine wpL_app _ rfl _ _ _ _ rfl w'.heap.size 63 _ 1 8 Tryz.underlying54 infoPSe rfl (by decide) _ l _ rfl (own_below g3 (bl_alloc hba _)) _ 1 [.pointer pa] rfl (Src.of Tryz.underlying54 _ _ _ _ rfl (by decide) (one_new _ [.pointer pa] _) (by simp [Value.oneCell'])) (by omega) (by have := g5.size; have := hba.size; simp; omega) ?_; intro A6 c6 V2 ho6 hg6 _; have hF : Fr (fun i => (Value.slice A3 l c3).ownBlock = some i) wr V2 := (Fr.of_below (bl_alloc hba _)).grown hg6 (fun i hi => .inr hi); have k2 := hF.blk g1 (fun hi => own_ne g3 hi g1 (by decide) rfl); have e3 : V2.cell? ⟨w'.heap.size, 3, none⟩ = some (.slice A3 l c3) := blk_cell k2 3; have f4 : V2.frozen? ⟨w'.heap.size, 3, none⟩ = false := blk_frozen k2 3))
          exact ⟨⟨l + 1, by omega, by simp, CO.stepS g1 g2 g3 g4 g5 g6 hF ho6⟩, by simp [intOf]; omega⟩
        · go_wp2
          go_ret2
          refine ⟨_, rfl, ⟨ms, A2, c2, _, qn, q, _, _, g1, own_read g2, ?_, g4, hqn.below g5, hkv.below g5⟩, bl_then hW1 g5⟩
          simpa using g2.1
end Go.Proofs.YtijhmlkehpoliaaGreatDoor
