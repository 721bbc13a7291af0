/- ClusterOpens: its arguments read, its walk, what is left behind. -/
import Derived.Test.YtijhmlkehpoliaaGreatDoorCards
import Derived.Test.YtijhmlkehpoliaaGreatDoorTie
import Derived.Test.YtijhmlkehpoliaaGreatDoorClLaw
import Derived.Test.YtijhmlkehpoliaaGreatDoorClFacts
import Derived.WalkKit
import Derived.ProofKit
import Derived.OpenShut
import Derived.Deep.DeepHandedRow
import Derived.Deep.DeepWitnessRowRef
import Derived.Deep.Slices
import Derived.Deep.Fields
import Derived.Deep.Frames
import Derived.ChangeSame
import Derived.WideKeyArgs
import Derived.Lib.SmallJoins
set_option linter.unusedVariables false
set_option linter.unusedSimpArgs false
namespace Go.Proofs.YtijhmlkehpoliaaGreatDoor.clusterOpens
open Go.ChangeShapes Go.WideShapes Go.ChangeAt Go.RowKit Go.Deep Go.Joins

theorem own : ownKnob Tryz.prog.godebug = none := by kernel_rfl

section
variable {H : Type} {enc : TypeId × Value → H} {P : Program} {w : World} {base : Nat} {spare : Nat → Bool} {held : Bool}
theorem open_slice_fields {t e : TypeId} {fs : Array Field} {fuel : Nat} {cs : List Value} {x : DataW H × List MemPlace} (ht : P.underlying t = some (.slice e)) (he : P.underlying e = some (.struct fs))
    (hone : oneCellFields P fs = true) (hC : P.cellsOf e = fs.size) (h : DataW.trod enc P w base spare held fuel t cs = some x) :
    cs = [.slice none 0 0] ∨
    ∃ (a : Addr) (len cap : Nat), cs = [.slice (some a) len cap] ∧ len ≤ maxLen ∧
      ∀ i, i < len → ∀ (j : Nat) (f : Field), fs[j]? = some f → ∃ (n : Nat) (v : Value) (y : DataW H × List MemPlace), w.cell? (a.add (i * fs.size + j)) = some v ∧ DataW.trod enc P w base spare held n f.type [v] = some y := by
  rcases open_slice ht h with h0 | ⟨a, len, cap, m, n, D, Pl, hcs, hb, hl, hm, hmm, hx, hi⟩
  · exact .inl h0.1
  · refine .inr ⟨a, len, cap, hcs, by omega, fun i him j f hj => ?_⟩
    have him' : i < m := by rw [hmm]; split <;> omega
    obtain ⟨cs', hc, ht'⟩ := hi i him'
    rw [hC] at hc
    obtain ⟨ys, n', hn', hy, hlen, hyl, hf⟩ := DataW.trod_struct he ht'
    obtain ⟨_, hcl, hat⟩ := World.cells?_some hc
    obtain ⟨ho, hk⟩ := hone_of hone j f hj
    have hjl : j < fs.size := (Array.getElem?_eq_some_iff.1 hj).1
    have hcell := hat j hjl
    have h1 := hf j f hj
    rw [ho, hk] at h1
    have hone' : (cs'.drop j).take 1 = [cs'[j]'(by omega)] := by
      rw [List.drop_eq_getElem_cons (by omega)]
      rfl
    rw [hone'] at h1
    have hys : ys[j]? = some (ys[j]'(by omega)) := List.getElem?_eq_getElem (by omega)
    refine ⟨n', _, _, ?_, h1.trans hys⟩
    rw [← Go.Deep.add_add, hcell]
    exact List.getElem?_eq_getElem (by omega)
theorem post_of_below {f : Func} {s : ChangeSpec} {apart fresh handsOn again : Bool} {W W' : World} {args : Array Value} {v : Value} {ds gs : List (DataW H)} {before pa pv : List MemPlace}
    (hW : DataW.Whole enc P f.params.toList s.vars apart W args.toList ds gs before)
    (hres : ∀ (b : Nat) (sp : Nat → Bool) (hd : Bool), DataW.TrodAll enc P W' b sp hd f.resultTypes.toList (v.resultList f.resultTypes.size) (s.fn H (ds ++ gs)).results [])
    (hargs : ∀ sp : Nat → Bool, (∀ p ∈ before, sp p.block = true) → DataW.TrodAll enc P W' 0 sp true f.params.toList args.toList (s.fn H (ds ++ gs)).args pa)
    (hvars : ∀ sp : Nat → Bool, (∀ p ∈ before, sp p.block = true) → DataW.TrodVars enc P W' sp s.vars (s.fn H (ds ++ gs)).vars pv)
    (hps : before = pa ++ pv) (hb : Below W.heap.size W W')
    (hok : ∀ (j : Nat) (t : TypeId) (r : Value), f.resultTypes[j]? = some t → (v.resultList f.resultTypes.size)[j]? = some r → Value.okWide P W' .any 0 t r) :
    s.post enc P f apart fresh handsOn again W args v W' := by
  have hlt : ∀ p ∈ before, p.block < W.heap.size := fun p hp => hW.lt p hp
  have hold : ∀ p ∈ before, (fun b => decide (b < W.heap.size)) p.block = true := fun p hp => by simpa using hlt p hp
  refine ⟨ds, gs, before, [], pa, pv, hW, hres _ _ _, hargs _ hold, hvars _ hold, World.keptBut_mono (fun p hp => ⟨hp, ?_⟩) (hb.frame (· ∈ before)), fun _ => ?_⟩
  · rw [hps, List.mem_append] at hp
    exact Or.inr hp
  · obtain ⟨_, _, _, _, _, hz, hn⟩ := hW
    refine ⟨hok, _, _, ([] ++ pa) ++ pv, ⟨[] ++ pa, pv, trodAll_append (hargs _ (fun _ _ => rfl)) (hres _ _ _), hvars _ (fun _ _ => rfl), rfl, ?_, ?_⟩, ?_⟩
    · intro b off hp
      have hin : MemPlace.cell b off ∈ before := by rw [hps]; simpa using hp
      rw [hb.frozen (hlt _ hin)]
      exact hz b off hin
    · intro ha
      have := hn ha
      rw [hps] at this
      simpa using this
    · intro p hp _
      rw [hps]
      simpa using hp
end

theorem flat_row {α : Type} [Inhabited α] {enc : α → List Value} {s : Nat} (hs : ∀ x, (enc x).length = s) (h0 : 0 < s) {W : World} {b o n : Nat} (f : Nat → α) (h : ∀ i, i < n → ∀ j u, (enc (f i))[j]? = some u → W.cell? ⟨b, o + (i * s + j), none⟩ = some u) :
    Row W b o (((List.range n).map f).flatMap enc) := by
  intro j u hj
  have hlen : (((List.range n).map f).flatMap enc).length = n * s := by rw [flat_length hs]; simp
  have hjl : j < n * s := by
    have := (List.getElem?_eq_some_iff.1 hj).1
    omega
  have hk : j / s < n := Nat.div_lt_of_lt_mul (by rw [Nat.mul_comm]; exact hjl)
  have hi : j % s < s := Nat.mod_lt _ h0
  have hsp : j / s * s + j % s = j := by rw [Nat.mul_comm]; exact Nat.div_add_mod j s
  have hk' : j / s < ((List.range n).map f).length := by simpa using hk
  have := flat_at hs ((List.range n).map f) (j / s) hk' (j % s) hi
  rw [hsp, hj] at this
  have := h (j / s) hk (j % s) u (by rw [this]; simp)
  rw [hsp] at this
  exact this

instance : Inhabited Sp := ⟨⟨0, 0, 0⟩⟩
set_option maxRecDepth 100000 in
theorem arg_cfg {H : Type} {enc : TypeId × Value → H} {W : World} {b0 : Nat} {v : Value} {d : DataW H} {p : List MemPlace} (hv : Value.okWide Tryz.prog W .any b0 24 v) (h : DataW.Trod enc Tryz.prog W 0 (fun _ => true) true 24 v d p) :
    ∃ (A : Option Addr) (c : Nat) (xs : List Sp) (sh : Int), v = .agg #[.slice A xs.length c, .int .i64 sh] ∧ xs.length ≤ maxLen ∧ SlR W A (xs.flatMap Sp.enc) := by
  obtain ⟨v0, v1, y0, y1, n, rfl, rfl, rfl, h0, h1⟩ := open_agg2 Tryz.underlying24 (by kernel_rfl) (by kernel_rfl) hv h
  obtain ⟨sh, hsh, _, _⟩ := DataW.trod_int Tryz.underlying3 h1
  obtain rfl : v1 = .int .i64 sh := by simpa using hsh
  rcases open_slice_fields Tryz.underlying22 Tryz.underlying46 (by kernel_rfl) (by kernel_rfl) h0 with hn | ⟨a, len, cap, hc, hm, hf⟩
  · obtain rfl : v0 = .slice none 0 0 := by simpa using hn
    exact ⟨none, 0, [], sh, rfl, by simp, SlR.nil _ _⟩
  · obtain rfl : v0 = .slice (some a) len cap := by simpa using hc
    have hone : ∀ i, i < len → ∃ s : Sp, ∀ j u, (Sp.enc s)[j]? = some u → W.cell? (a.add (i * 3 + j)) = some u := fun i hi => by
      obtain ⟨_, u0, _, c0, t0⟩ := hf i hi 0 _ rfl
      obtain ⟨_, u1, _, c1, t1⟩ := hf i hi 1 _ rfl
      obtain ⟨_, u2, _, c2, t2⟩ := hf i hi 2 _ rfl
      obtain ⟨n0, e0, _, _⟩ := DataW.trod_int Tryz.underlying3 t0
      obtain ⟨n1, e1, _, _⟩ := DataW.trod_int Tryz.underlying3 t1
      obtain ⟨n2, e2, _, _⟩ := DataW.trod_int Tryz.underlying3 t2
      obtain rfl : u0 = .int .i64 n0 := by simpa using e0
      obtain rfl : u1 = .int .i64 n1 := by simpa using e1
      obtain rfl : u2 = .int .i64 n2 := by simpa using e2
      refine ⟨⟨n0, n1, n2⟩, fun j u hj => ?_⟩
      match j, hj with
      | 0, hj => cases hj; exact c0
      | 1, hj => cases hj; exact c1
      | 2, hj => cases hj; exact c2
    obtain ⟨f, hf'⟩ := choose_lt hone
    refine ⟨some a, cap, (List.range len).map f, sh, by simp, by simpa using hm, fun hne => ?_⟩
    have hl : 0 < len := by
      rcases Nat.eq_zero_or_pos len with h | h
      · subst h; simp at hne
      · exact h
    have hsp : a.spot = none := by
      have := World.cell?_spot (hf' 0 hl 0 _ rfl)
      simpa [Addr.add] using this
    obtain ⟨b, o, spot⟩ := a
    simp only at hsp
    subst hsp
    exact ⟨b, o, rfl, flat_row Sp.enc_len (by omega) f (fun i hi j u hj => by have := hf' i hi j u hj; rwa [add_pl] at this)⟩

theorem stays {H : Type} {enc : TypeId × Value → H} {W W' : World} {t : TypeId} (hr : Tryz.prog.readableRec t = true) (hrow : t < Tryz.prog.types.size) {sp : Nat → Bool} {v : Value} {d : DataW H} {ps : List MemPlace} (hb : Below W.heap.size W W')
    (h : DataW.Trod enc Tryz.prog W 0 (fun _ => true) true t v d ps) (hlt : ∀ p ∈ ps, p.block < W.heap.size) (hs : ∀ p ∈ ps, sp p.block = true) : DataW.Trod enc Tryz.prog W' 0 sp true t v d ps :=
  WideElems.Trod_stays laidOut hr hrow h (fun p hp => by
    have := hb.block p.block (hlt p hp)
    cases p <;> simp only [World.sameAt, MemPlace.block] at * <;> first | exact this | (unfold World.cell?; simp only [this]) | skip) hs

set_option maxRecDepth 100000 in
theorem contract (H : Type) (enc : TypeId × Value → H) (W : World) (base : Nat) (args : Array Value) (ds gs : List (DataW H)) (before : List MemPlace)
    (hval : ∀ (j : Nat) t v, Tryz.f3.params[j]? = some t → args[j]? = some v → Value.okWide Tryz.prog W .any base t v)
    (hW : DataW.Whole enc Tryz.prog Tryz.f3.params.toList Rows.clusterOpensSpec.vars false W args.toList ds gs before) :
    Calls Tryz.prog 3 args W fun e W' => ∃ v, e = .returned v ∧ Rows.clusterOpensSpec.post enc Tryz.prog Tryz.f3 false true false false W args v W' := by
  have hW' := hW
  obtain ⟨p, q, hA0, hV, rfl, hfz, hnd⟩ := hW
  have hA : DataW.TrodAll enc Tryz.prog W 0 (fun _ => true) true Tryz.f3.params.toList args.toList ds p := hA0
  rw [Tryz.params3] at hA hval
  obtain ⟨v0, vs0, d0, ds0, p0, q0, hargs, rfl, rfl, h0, r0⟩ := trodAll_cons hA
  obtain ⟨v1, vs1, d1, ds1, p1, q1, rfl, rfl, rfl, h1, r1⟩ := trodAll_cons r0
  obtain ⟨v2, vs2, d2, ds2, p2, q2, rfl, rfl, rfl, h2, r2⟩ := trodAll_cons r1
  obtain ⟨v3, vs3, d3, ds3, p3, q3, rfl, rfl, rfl, h3, r3⟩ := trodAll_cons r2
  obtain ⟨rfl, rfl, rfl⟩ := trodAll_nil r3
  obtain rfl : args = #[v0, v1, v2, v3] := by cases args; simp_all
  obtain ⟨rfl, rfl⟩ := trodVars_none hV
  obtain ⟨A, c, xs, sh, rfl, hm, hsl⟩ := arg_cfg (hval 0 _ v0 rfl rfl) h0
  have h1' := h1
  have h2' := h2
  have h3' := h3
  obtain ⟨n1, rfl, _⟩ := open_int Tryz.underlying3 (hval 1 _ v1 rfl rfl) h1
  obtain ⟨n2, rfl, _⟩ := open_int Tryz.underlying3 (hval 2 _ v2 rfl rfl) h2
  obtain ⟨n3, rfl, _⟩ := open_int Tryz.underlying3 (hval 3 _ v3 rfl rfl) h3
  clear hA0
  have hlt : ∀ x ∈ p0 ++ (p1 ++ (p2 ++ (p3 ++ []))), x.block < W.heap.size := fun x hx => hW'.lt x (List.mem_append_left _ hx)
  simp only [List.append_nil] at hW' hlt
  refine (opens A c xs sh n1 n2 n3 W (by simpa [maxLen] using hm) hsl).mono fun e W' ⟨he, hb⟩ => ?_
  subst he
  refine ⟨_, rfl, post_of_below (pa := p0 ++ (p1 ++ (p2 ++ p3))) (pv := []) hW' (fun _ _ _ => trodAll_cons_mk (shut_bool Tryz.underlying4 _) trodAll_mk0) (fun sp hs => ?_) (fun _ _ => rfl) (by simp) hb (ok_one (by kernel_rfl) rfl (okWide_bool_mk Tryz.underlying4 _))⟩
  have hin : ∀ x, x ∈ p0 ∨ x ∈ p1 ∨ x ∈ p2 ∨ x ∈ p3 → x ∈ p0 ++ (p1 ++ (p2 ++ p3)) := fun x hx => by simpa [or_assoc] using hx
  have := trodAll_cons_mk (stays (by kernel_rfl) (of_decide_eq_true (by kernel_rfl)) hb h0 (fun x hx => hlt x (hin x (.inl hx))) (fun x hx => hs x (hin x (.inl hx))))
    (trodAll_cons_mk (stays (by kernel_rfl) (of_decide_eq_true (by kernel_rfl)) hb h1' (fun x hx => hlt x (hin x (.inr (.inl hx)))) (fun x hx => hs x (hin x (.inr (.inl hx)))))
    (trodAll_cons_mk (stays (by kernel_rfl) (of_decide_eq_true (by kernel_rfl)) hb h2' (fun x hx => hlt x (hin x (.inr (.inr (.inl hx))))) (fun x hx => hs x (hin x (.inr (.inr (.inl hx))))))
    (trodAll_cons_mk (stays (by kernel_rfl) (of_decide_eq_true (by kernel_rfl)) hb h3' (fun x hx => hlt x (hin x (.inr (.inr (.inr hx))))) (fun x hx => hs x (hin x (.inr (.inr (.inr hx))))))
    trodAll_mk0)))
  simp only [List.append_nil] at this
  exact this

end Go.Proofs.YtijhmlkehpoliaaGreatDoor.clusterOpens
