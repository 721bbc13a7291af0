/- Maps as lists of entries, in whatever order: what look-up, store, delete, len and a range do to them. -/
import Derived.Test.YtijhmlkehpoliaaGreatDoorVoc
set_option linter.unusedVariables false
set_option linter.unusedSimpArgs false
namespace Go.Proofs.YtijhmlkehpoliaaGreatDoor
open Go.RowKit Go.Maps
set_option linter.unusedSectionVars false
open Go.ChangeMaps (setBlock)

structure KT (P : Program) (k : TypeId) (κ : Type) where
  kf : κ → Value
  ok : κ → Prop
  inj : ∀ x y, kf x = kf y → x = y
  key : ∀ x, ok x → ∃ l, keyOf P k (kf x) = some l
  law : Keyed P k
def strKT {P : Program} {k : TypeId} (hk : P.underlying k = some .string) : KT P k ByteArray :=
  ⟨.string, fun s => s.size ≤ maxLen, fun x y h => by injection h, fun x h => ⟨_, WideMaps.keyOf_string_mk hk h⟩, string_keyed hk⟩
def intKT {P : Program} {k : TypeId} (hk : P.underlying k = some (.int .i64)) : KT P k Int :=
  ⟨.int .i64, fun s => (Lit.int .i64 s).wf = true, fun x y h => by injection h, fun x h => ⟨_, keyOf_int_mk hk h⟩, int_keyed hk⟩

section
variable {P : Program} {k : TypeId} {κ : Type} (K : KT P k κ)

def ents (F : List (κ × Value)) : List (Value × Value) := F.map fun p => (K.kf p.1, p.2)
/-- Block b is a map whose entries are F. -/
def MapT (w : World) (b : Nat) (F : List (κ × Value)) : Prop :=
  ∃ (es : Array MapEntry) (clock : Nat), w.heap[b]? = some (.map es clock) ∧ (es.toList.map (·.born)).Nodup ∧ (∀ e ∈ es.toList, e.born < clock) ∧
    (es.toList.map fun e => (e.key, e.val)).Perm (ents K F) ∧ (F.map (·.1)).Nodup ∧ ∀ p ∈ F, K.ok p.1

variable {K}
theorem MapT.lt {w : World} {b : Nat} {F : List (κ × Value)} (h : MapT K w b F) : b < w.heap.size := by
  obtain ⟨es, clock, hb, _⟩ := h; exact lt_of_blk hb
theorem MapT.fr {S : Nat → Prop} {w w' : World} {b : Nat} {F : List (κ × Value)} (h : MapT K w b F) (hf : Fr S w w') (hs : ¬ S b) : MapT K w' b F := by
  obtain ⟨es, clock, hb, r⟩ := h; exact ⟨es, clock, hf.blk hb hs, r⟩
theorem MapT.perm {w : World} {b : Nat} {F G : List (κ × Value)} (h : MapT K w b F) (hp : F.Perm G) : MapT K w b G := by
  obtain ⟨es, clock, hb, h1, h2, h3, h4, h5⟩ := h
  exact ⟨es, clock, hb, h1, h2, h3.trans (hp.map _), (hp.map _).nodup_iff.1 h4, fun p hp' => h5 p (hp.mem_iff.2 hp')⟩
theorem MapT.made (w : World) : MapT K (w.alloc (.map #[] 0)) w.heap.size [] :=
  ⟨#[], 0, heap_alloc_new w _, by simp, by simp, by simp [ents], by simp, by simp⟩
theorem MapT.at {w : World} {b : Nat} {F : List (κ × Value)} (h : MapT K w b F) {o : Obj} {w' : World} (e : w'.heap[b]? = w.heap[b]?) : MapT K w' b F := by
  obtain ⟨es, clock, hb, r⟩ := h; exact ⟨es, clock, e.trans hb, r⟩
theorem MapT.nodup {w : World} {b : Nat} {F : List (κ × Value)} (h : MapT K w b F) : (F.map (·.1)).Nodup := by obtain ⟨_, _, _, _, _, _, h, _⟩ := h; exact h
theorem MapT.oks {w : World} {b : Nat} {F : List (κ × Value)} (h : MapT K w b F) : ∀ p ∈ F, K.ok p.1 := by obtain ⟨_, _, _, _, _, _, _, h⟩ := h; exact h

theorem ents_mem {es : Array MapEntry} {F : List (κ × Value)} (h : (es.toList.map fun e => (e.key, e.val)).Perm (ents K F)) {e : MapEntry} (he : e ∈ es.toList) :
    ∃ x, (x, e.val) ∈ F ∧ K.kf x = e.key := by
  have := h.mem_iff.1 (List.mem_map.2 ⟨e, he, rfl⟩)
  obtain ⟨p, hp, hq⟩ := List.mem_map.1 this
  simp only [Prod.mk.injEq] at hq
  exact ⟨p.1, by rw [← hq.2]; exact hp, hq.1⟩
theorem mem_ents {es : Array MapEntry} {F : List (κ × Value)} (h : (es.toList.map fun e => (e.key, e.val)).Perm (ents K F)) {p : κ × Value} (hp : p ∈ F) :
    ∃ e ∈ es.toList, e.key = K.kf p.1 ∧ e.val = p.2 := by
  obtain ⟨e, he, hq⟩ := List.mem_map.1 (h.mem_iff.2 (List.mem_map.2 ⟨p, hp, rfl⟩))
  simp only [Prod.mk.injEq] at hq
  exact ⟨e, he, hq.1, hq.2⟩
theorem ents_keys {es : Array MapEntry} {F : List (κ × Value)} (h : (es.toList.map fun e => (e.key, e.val)).Perm (ents K F)) (hok : ∀ p ∈ F, K.ok p.1) :
    ∀ e ∈ es.toList, ∃ l, keyOf P k e.key = some l := fun e he => by
  obtain ⟨x, hx, hk⟩ := ents_mem h he
  rw [← hk]; exact K.key x (hok _ hx)

/-- The look-up. -/
theorem MapT.look {w : World} {b : Nat} {F : List (κ × Value)} (h : MapT K w b F) {t e : TypeId} (ht : P.underlying t = some (.map k e)) {z : Value} (hz : (zeroValue e).run P w = .ok z w)
    (x : κ) (hx : K.ok x) (c : Bool) :
    (∃ v, (x, v) ∈ F ∧ (Instr.lookup t (.map (some b)) (K.kf x) c).run P w = .ok (if c then .tuple #[v, .bool true] else v) w) ∨
    ((∀ v, (x, v) ∉ F) ∧ (Instr.lookup t (.map (some b)) (K.kf x) c).run P w = .ok (if c then .tuple #[z, .bool false] else z) w) := by
  obtain ⟨es, clock, hb, h1, h2, h3, h4, h5⟩ := h
  obtain ⟨l, hl⟩ := K.key x hx
  rcases K.law.find w hl es.toList (ents_keys h3 h5) with ⟨hr, hn⟩ | ⟨j, e0, hr, hj, he⟩
  · right
    refine ⟨fun v hv => ?_, ?_⟩
    · obtain ⟨e, he, hk, _⟩ := mem_ents h3 hv
      exact hn e he hk
    · cases c <;> simp [Instr.lookup, run_underlying ht, MapKept.run_getObj_map hb, K.law.check w _ hl, hr, hz, Result.andThen]
  · left
    have hmem : e0 ∈ es.toList := by
      have := Array.mem_of_getElem? (by simpa using hj)
      simpa using this
    obtain ⟨y, hy, hky⟩ := ents_mem h3 hmem
    have : y = x := K.inj _ _ (hky.trans he)
    subst this
    refine ⟨e0.val, hy, ?_⟩
    cases c <;> simp [Instr.lookup, run_underlying ht, MapKept.run_getObj_map hb, K.law.check w _ hl, hr, Result.andThen]

theorem look_nil {w : World} {t e : TypeId} (ht : P.underlying t = some (.map k e)) {z : Value} (hz : (zeroValue e).run P w = .ok z w)
    (x : κ) (hx : K.ok x) (c : Bool) :
    (Instr.lookup t (.map none) (K.kf x) c).run P w = .ok (if c then .tuple #[z, .bool false] else z) w := by
  obtain ⟨l, hl⟩ := K.key x hx
  rcases K.law.find w hl [] (by simp) with ⟨hr, hn⟩ | ⟨j, e0, hr, hj, he⟩
  · cases c <;> simp [Instr.lookup, run_underlying ht, K.law.check w _ hl, hr, hz, Result.andThen]
  · simp at hj

theorem heap_setBlock {w : World} {b : Nat} {o : Obj} (h : b < w.heap.size) : (setBlock w b o).heap[b]? = some o := by simp [setBlock, h]

variable [DecidableEq κ]
/-- The list of entries behind a store. -/
def putL (F : List (κ × Value)) (x : κ) (v : Value) : List (κ × Value) := (x, v) :: F.filter (fun p => p.1 ≠ x)
def delL (F : List (κ × Value)) (x : κ) : List (κ × Value) := F.filter (fun p => p.1 ≠ x)

theorem filter_ents {es : List MapEntry} {F : List (κ × Value)} (h : (es.map fun e => (e.key, e.val)).Perm (ents K F)) (x : κ) (q : MapEntry → Bool) (hq : ∀ e ∈ es, q e = true ↔ e.key ≠ K.kf x) :
    ((es.filter q).map fun e => (e.key, e.val)).Perm (ents K (delL F x)) := by
  classical
  have e1 : ((es.filter q).map fun e => (e.key, e.val)) = (es.map fun e => (e.key, e.val)).filter (fun p => decide (p.1 ≠ K.kf x)) := by
    rw [List.filter_map]
    congr 1
    refine List.filter_congr fun e he => ?_
    have := hq e he
    simp only [Function.comp]
    by_cases hk : e.key = K.kf x
    · rw [Bool.eq_iff_iff, this]; simp [hk]
    · rw [Bool.eq_iff_iff, this]; simp [hk]
  have e2 : ents K (delL F x) = (ents K F).filter (fun p => decide (p.1 ≠ K.kf x)) := by
    unfold ents delL
    rw [List.filter_map]
    congr 1
    refine List.filter_congr fun p _ => ?_
    simp only [Function.comp]
    by_cases hk : p.1 = x
    · subst hk; simp
    · have : K.kf p.1 ≠ K.kf x := fun h => hk (K.inj _ _ h)
      simp [hk, this]
  rw [e1, e2]
  exact h.filter _

theorem nodup_filter {F : List (κ × Value)} (h : (F.map (·.1)).Nodup) (q : κ × Value → Bool) : ((F.filter q).map (·.1)).Nodup :=
  (List.Sublist.map _ (List.filter_sublist (p := q) (l := F))).nodup h

/-- The store. -/
theorem MapT.put {w : World} {b : Nat} {F : List (κ × Value)} (h : MapT K w b F) {t e : TypeId} (ht : P.underlying t = some (.map k e)) (x : κ) (hx : K.ok x) (v : Value) :
    ∃ o, (Instr.mapUpdate t (.map (some b)) (K.kf x) v).run P w = .ok () (setBlock w b o) ∧ MapT K (setBlock w b o) b (putL F x v) := by
  have hlt := h.lt
  obtain ⟨es, clock, hb, h1, h2, h3, h4, h5⟩ := h
  obtain ⟨l, hl⟩ := K.key x hx
  have hok : ∀ p ∈ putL F x v, K.ok p.1 := by
    intro p hp
    rcases List.mem_cons.1 hp with rfl | hp
    · exact hx
    · exact h5 p (List.mem_filter.1 hp).1
  have hnd : ((putL F x v).map (·.1)).Nodup := by
    unfold putL
    rw [List.map_cons, List.nodup_cons]
    refine ⟨fun hm => ?_, nodup_filter h4 _⟩
    obtain ⟨p, hp, he⟩ := List.mem_map.1 hm
    have := (List.mem_filter.1 hp).2
    simp [he] at this
  rcases K.law.find w hl es.toList (ents_keys h3 h5) with ⟨hr, hn⟩ | ⟨j, e0, hr, hj, he⟩
  · refine ⟨.map (es.push { key := K.kf x, val := v, born := clock }) (clock + 1), ?_, _, _, heap_setBlock hlt, ?_, ?_, ?_, hnd, hok⟩
    · simp [Instr.mapUpdate, run_underlying ht, MapKept.run_getObj_map hb, K.law.check w _ hl, hr, MapKept.run_setObj_map _ hb, Result.andThen, setBlock]
    · simp only [Array.toList_push, List.map_append, List.map_cons, List.map_nil]
      rw [List.nodup_append]
      refine ⟨h1, by simp, fun a ha c hc => ?_⟩
      obtain ⟨e, he, rfl⟩ := List.mem_map.1 ha
      have := h2 e he
      simp at hc
      omega
    · intro e he
      simp only [Array.toList_push, List.mem_append, List.mem_singleton] at he
      rcases he with he | rfl
      · have := h2 e he; omega
      · simp
    · simp only [Array.toList_push, List.map_append, List.map_cons, List.map_nil]
      have e1 : delL F x = F := by
        unfold delL
        rw [List.filter_eq_self]
        intro p hp
        simp only [decide_eq_true_eq]
        intro hpx
        obtain ⟨e, he, hk, _⟩ := mem_ents h3 hp
        exact hn e he (hk.trans (by rw [hpx]))
      unfold putL
      show _
      have : F.filter (fun p => decide (p.1 ≠ x)) = F := e1
      rw [this]
      refine (List.perm_append_comm).trans ?_
      exact (h3.cons _)
  · have hmem : e0 ∈ es.toList := by
      have := Array.mem_of_getElem? (by simpa using hj)
      simpa using this
    have hjl : j < es.size := by
      have hj' : es.toList[j]? = some e0 := hj
      have := (List.getElem?_eq_some_iff.1 hj').1
      simpa using this
    have hje : es[j] = e0 := by
      have hj' : es.toList[j]? = some e0 := hj
      have := (List.getElem?_eq_some_iff.1 hj').2
      simpa using this
    refine ⟨.map (es.modify j fun e => { e with key := K.kf x, val := v }) clock, ?_, _, _, heap_setBlock hlt, ?_, ?_, ?_, hnd, hok⟩
    · have hst := K.law.stays w hl
      have hj2 : es[j]? = some e0 := by rw [Array.getElem?_eq_getElem hjl, hje]
      simp [Instr.mapUpdate, run_underlying ht, MapKept.run_getObj_map hb, K.law.check w _ hl, hr, hj2, he, hst, MapKept.run_setObj_map _ hb, Result.andThen, setBlock]
    · have : (es.modify j fun e => { e with key := K.kf x, val := v }).toList.map (·.born) = es.toList.map (·.born) := by
        apply List.ext_getElem
        · simp
        · intro i h1 h2
          simp only [List.getElem_map, Array.getElem_toList, Array.getElem_modify]
          split <;> simp_all
      rw [this]; exact h1
    · intro e hee
      rw [List.mem_iff_getElem] at hee
      obtain ⟨i, hi, rfl⟩ := hee
      simp only [Array.getElem_toList, Array.getElem_modify]
      have hi' : i < es.size := by simpa using hi
      have := h2 es[i] (by simp)
      split <;> simpa using this
    · have hj' : j < es.toList.length := by simpa using hjl
      have hg : es.toList[j] = e0 := by rw [Array.getElem_toList]; exact hje
      have s1 : es.toList = es.toList.take j ++ e0 :: es.toList.drop (j + 1) := by
        conv => lhs; rw [← List.take_append_drop j es.toList, List.drop_eq_getElem_cons hj', hg]
      have s2 : (es.modify j fun e => { e with key := K.kf x, val := v }).toList = es.toList.take j ++ { e0 with key := K.kf x, val := v } :: es.toList.drop (j + 1) := by
        rw [Array.toList_modify, List.modify_eq_take_cons_drop hj', hg]
      have hkeys : (es.toList.map (·.key)).Nodup := by
        have e1 : (es.toList.map (·.key)).Perm ((F.map (·.1)).map K.kf) := by
          have := h3.map (·.1)
          simpa [ents, List.map_map, Function.comp_def] using this
        rw [e1.nodup_iff]
        exact List.pairwise_map.2 (h4.imp (fun hne he => hne (K.inj _ _ he)))
      rw [s1, List.map_append, List.map_cons, List.nodup_append, List.nodup_cons] at hkeys
      have hd : ∀ y ∈ es.toList.take j ++ es.toList.drop (j + 1), y.key ≠ K.kf x := by
        intro y hy hyk
        rcases List.mem_append.1 hy with hy | hy
        · exact hkeys.2.2 y.key (List.mem_map.2 ⟨y, hy, rfl⟩) e0.key (by simp) (hyk.trans he.symm)
        · exact hkeys.2.1.1 (List.mem_map.2 ⟨y, hy, hyk.trans he.symm⟩)
      classical
      have hf := filter_ents h3 x (fun e => decide (e.key ≠ K.kf x)) (fun e _ => by simp)
      have hfe : es.toList.filter (fun e => decide (e.key ≠ K.kf x)) = es.toList.take j ++ es.toList.drop (j + 1) := by
        have key : ∀ A B, es.toList = A ++ e0 :: B → (∀ y ∈ A ++ B, y.key ≠ K.kf x) → es.toList.filter (fun e => decide (e.key ≠ K.kf x)) = A ++ B := by
          intro A B hs hd'
          rw [hs, List.filter_append, List.filter_cons]
          simp only [he, ne_eq, not_true, decide_false, Bool.false_eq_true, if_false]
          rw [← List.filter_append, List.filter_eq_self]
          intro y hy
          have := hd' y hy
          simp [this]
        exact key _ _ s1 hd
      rw [hfe] at hf
      rw [s2]
      refine List.Perm.trans (List.Perm.map _ List.perm_middle) ?_
      exact hf.cons _

/-- 'delete(m, k)'. -/
theorem MapT.del {w : World} {b : Nat} {F : List (κ × Value)} (h : MapT K w b F) {t e ty : TypeId} (ht : P.underlying t = some (.map k e)) (x : κ) (hx : K.ok x) :
    ∃ o, (Builtin.delete_ #[t, k] ty #[.map (some b), K.kf x]).run P w = .ok (.tuple #[]) (setBlock w b o) ∧ MapT K (setBlock w b o) b (delL F x) := by
  have hlt := h.lt
  obtain ⟨es, clock, hb, h1, h2, h3, h4, h5⟩ := h
  obtain ⟨l, hl⟩ := K.key x hx
  have hok : ∀ p ∈ delL F x, K.ok p.1 := fun p hp => h5 p (List.mem_filter.1 hp).1
  have hnd : ((delL F x).map (·.1)).Nodup := nodup_filter h4 _
  rcases K.law.find w hl es.toList (ents_keys h3 h5) with ⟨hr, hn⟩ | ⟨j, e0, hr, hj, he⟩
  · refine ⟨.map es clock, ?_, _, _, heap_setBlock hlt, h1, h2, ?_, hnd, hok⟩
    · simp [Builtin.delete_, run_underlying ht, MapKept.run_getObj_map hb, K.law.check w _ hl, hr, MapKept.run_setObj_map _ hb, Result.andThen, setBlock]
    · have e1 : delL F x = F := by
        unfold delL
        rw [List.filter_eq_self]
        intro p hp
        simp only [decide_eq_true_eq]
        intro hpx
        obtain ⟨e, he, hk, _⟩ := mem_ents h3 hp
        exact hn e he (hk.trans (by rw [hpx]))
      rw [e1]; exact h3
  · have hj' : j < es.toList.length := (List.getElem?_eq_some_iff.1 hj).1
    have hjl : j < es.size := by simpa using hj'
    have hg : es.toList[j] = e0 := (List.getElem?_eq_some_iff.1 hj).2
    refine ⟨.map (es.eraseIdxIfInBounds j) clock, ?_, _, _, heap_setBlock hlt, ?_, ?_, ?_, hnd, hok⟩
    · simp [Builtin.delete_, run_underlying ht, MapKept.run_getObj_map hb, K.law.check w _ hl, hr, MapKept.run_setObj_map _ hb, Result.andThen, setBlock]
    all_goals
      have e0' : (es.eraseIdxIfInBounds j).toList = es.toList.eraseIdx j := by
        unfold Array.eraseIdxIfInBounds
        simp [hjl]
      rw [e0']
    · exact ((List.eraseIdx_sublist _ _).map _).nodup h1
    · exact fun e he => h2 e ((List.eraseIdx_sublist _ _).subset he)
    · have s1 : es.toList = es.toList.take j ++ e0 :: es.toList.drop (j + 1) := by
        conv => lhs; rw [← List.take_append_drop j es.toList, List.drop_eq_getElem_cons hj', hg]
      have hkeys : (es.toList.map (·.key)).Nodup := by
        have e1 : (es.toList.map (·.key)).Perm ((F.map (·.1)).map K.kf) := by
          have := h3.map (·.1)
          simpa [ents, List.map_map, Function.comp_def] using this
        rw [e1.nodup_iff]
        exact List.pairwise_map.2 (h4.imp (fun hne he => hne (K.inj _ _ he)))
      rw [s1, List.map_append, List.map_cons, List.nodup_append, List.nodup_cons] at hkeys
      have hd : ∀ y ∈ es.toList.take j ++ es.toList.drop (j + 1), y.key ≠ K.kf x := by
        intro y hy hyk
        rcases List.mem_append.1 hy with hy | hy
        · exact hkeys.2.2 y.key (List.mem_map.2 ⟨y, hy, rfl⟩) e0.key (by simp) (hyk.trans he.symm)
        · exact hkeys.2.1.1 (List.mem_map.2 ⟨y, hy, hyk.trans he.symm⟩)
      classical
      have hf := filter_ents h3 x (fun e => decide (e.key ≠ K.kf x)) (fun e _ => by simp)
      have hfe : es.toList.filter (fun e => decide (e.key ≠ K.kf x)) = es.toList.take j ++ es.toList.drop (j + 1) := by
        have key : ∀ A B, es.toList = A ++ e0 :: B → (∀ y ∈ A ++ B, y.key ≠ K.kf x) → es.toList.filter (fun e => decide (e.key ≠ K.kf x)) = A ++ B := by
          intro A B hs hd'
          rw [hs, List.filter_append, List.filter_cons]
          simp only [he, ne_eq, not_true, decide_false, Bool.false_eq_true, if_false]
          rw [← List.filter_append, List.filter_eq_self]
          intro y hy
          have := hd' y hy
          simp [this]
        exact key _ _ s1 hd
      rw [hfe] at hf
      rw [List.eraseIdx_eq_take_drop_succ]
      exact hf
end

section
variable {P : Program} {k : TypeId} {κ : Type} {K : KT P k κ}
theorem MapT.len {w : World} {b : Nat} {F : List (κ × Value)} (h : MapT K w b F) {t e ty : TypeId} (ht : P.underlying t = some (.map k e)) :
    (Builtin.len_ #[t] ty #[.map (some b)]).run P w = .ok (.int .i64 F.length) w := by
  obtain ⟨es, clock, hb, h1, h2, h3, h4, h5⟩ := h
  have : es.size = F.length := by have := h3.length_eq; simpa [ents] using this
  simp [Builtin.len_, run_underlying ht, MapKept.run_getObj_map hb, Result.andThen, goInt, this]

/-- 'for k, v := range m' under way: 'left' is what has not come yet. -/
def RngT (K : KT P k κ) (w : World) (b r : Nat) (F left : List (κ × Value)) : Prop :=
  ∃ es clock since seen c0, w.heap[b]? = some (.map es clock) ∧ (es.toList.map (·.born)).Nodup ∧ (∀ e ∈ es.toList, e.born < clock) ∧
    (es.toList.map fun e => (e.key, e.val)).Perm (ents K F) ∧ (F.map (·.1)).Nodup ∧ (∀ p ∈ F, K.ok p.1) ∧
    w.heap[r]? = some (.mapIter (some b) since seen c0) ∧ (∀ e ∈ es.toList, e.born < since) ∧ since ≤ c0 ∧ since ≤ clock ∧
    ((leftOf es seen).toList.map fun e => (e.key, e.val)).Perm (ents K left)
theorem RngT.map {w : World} {b r : Nat} {F left : List (κ × Value)} (h : RngT K w b r F left) : MapT K w b F := by
  obtain ⟨es, clock, since, seen, c0, hb, h1, h2, h3, h4, h5, _⟩ := h; exact ⟨es, clock, hb, h1, h2, h3, h4, h5⟩
theorem RngT.lt {w : World} {b r : Nat} {F left : List (κ × Value)} (h : RngT K w b r F left) : r < w.heap.size := by
  obtain ⟨es, clock, since, seen, c0, hb, h1, h2, h3, h4, h5, hr, _⟩ := h; exact lt_of_blk hr
theorem RngT.ne {w : World} {b r : Nat} {F left : List (κ × Value)} (h : RngT K w b r F left) : r ≠ b := by
  obtain ⟨es, clock, since, seen, c0, hb, h1, h2, h3, h4, h5, hr, _⟩ := h
  intro e; rw [e, hb] at hr; cases hr
theorem RngT.fr {S : Nat → Prop} {w w' : World} {b r : Nat} {F left : List (κ × Value)} (h : RngT K w b r F left) (hf : Fr S w w') (hb : ¬ S b) (hr : ¬ S r) : RngT K w' b r F left := by
  obtain ⟨es, clock, since, seen, c0, h0, h1, h2, h3, h4, h5, h6, h7⟩ := h
  exact ⟨es, clock, since, seen, c0, hf.blk h0 hb, h1, h2, h3, h4, h5, hf.blk h6 hr, h7⟩
/-- 'range m'. -/
theorem MapT.range {w : World} {b : Nat} {F : List (κ × Value)} (h : MapT K w b F) {t e : TypeId} (ht : P.underlying t = some (.map k e)) :
    ∃ w', (Instr.range t (.map (some b))).run P w = .ok (.pointer (some ⟨w.heap.size, 0, none⟩)) w' ∧ RngT K w' b w.heap.size F F ∧ Below w.heap.size w w' ∧ w'.heap.size = w.heap.size + 1 := by
  have hlt := h.lt
  obtain ⟨es, clock, hb, h1, h2, h3, h4, h5⟩ := h
  exact ⟨_, run_range_map w t k e b es clock ht hb, ⟨es, clock, clock, #[], clock, (heap_alloc_old w _ hlt).trans hb, h1, h2, h3, h4, h5, heap_alloc_new w _, h2, Nat.le_refl _, Nat.le_refl _,
    by
      have : leftOf es #[] = es := by simp only [leftOf, List.contains_toArray, List.contains_nil, Bool.not_false]; exact Array.filter_eq_self.2 (fun _ _ => rfl)
      rw [this]; exact h3⟩, (Below.refl _ w).alloc (Nat.le_refl _) _, by simp⟩

theorem perm_first {α β : Type} [DecidableEq β] (f : α → β) : ∀ {l : List α} {a : α}, (l.map f).Nodup → a ∈ l → l.Perm (a :: l.filter (fun x => f x ≠ f a))
  | [], _, _, h => by simp at h
  | y :: l, a, hn, hm => by
    simp only [List.map_cons, List.nodup_cons] at hn
    rcases List.mem_cons.1 hm with rfl | hm
    · have : l.filter (fun x => f x ≠ f a) = l := by
        rw [List.filter_eq_self]
        intro x hx
        simp only [decide_eq_true_eq]
        intro he
        exact hn.1 (List.mem_map.2 ⟨x, hx, he⟩)
      rw [List.filter_cons]
      simp only [ne_eq, not_true, decide_false, Bool.false_eq_true, if_false]
      rw [show (l.filter fun x => decide (¬f x = f a)) = l from this]
    · have hne : f y ≠ f a := fun he => hn.1 (List.mem_map.2 ⟨a, hm, he.symm⟩)
      simp only [List.filter_cons, hne, ne_eq, not_false_eq_true, decide_true, if_true]
      exact ((perm_first f hn.2 hm).cons y).trans (List.Perm.swap a y _)

/-- THE STEP. -/
theorem RngT.next {w : World} {b r : Nat} {F left : List (κ × Value)} (h : RngT K w b r F left) (ty : TypeId) :
    (left = [] ∧ (Instr.next (.pointer (some ⟨r, 0, none⟩)) false ty).run P w = .ok (.tuple #[.bool false]) w) ∨
    ∃ x v left' w', left.Perm ((x, v) :: left') ∧ (Instr.next (.pointer (some ⟨r, 0, none⟩)) false ty).run P w = .ok (.tuple #[.bool true, K.kf x, v]) w' ∧
      RngT K w' b r F left' ∧ Fr (fun i => i = r) w w' ∧ w'.heap.size = w.heap.size ∧ (Instr.entry (.pointer (some ⟨r, 0, none⟩))).run P w' = .ok (.tuple #[K.kf x, v]) w' := by
  have hne := h.ne
  have hrlt := h.lt
  obtain ⟨es, clock, since, seen, c0, hb, h1, h2, h3, h4, h5, hr, hold, hsc, hsk, hl⟩ := h
  rcases run_next_at (P := P) w ty r b since c0 seen es clock hr hb hold hsc with ⟨h0, hrun⟩ | ⟨e, he, w1, hal, hrun⟩
  · left
    refine ⟨?_, hrun⟩
    have := hl.length_eq
    simp only [List.length_map, Array.length_toList, ents] at this
    exact List.eq_nil_of_length_eq_zero (by omega)
  · right
    obtain ⟨hem, hes⟩ := mem_left he
    have hp1 := hl.mem_iff.1 (List.mem_map.2 ⟨e, he, rfl⟩)
    obtain ⟨p, hp, hpe⟩ := List.mem_map.1 hp1
    simp only [Prod.mk.injEq] at hpe
    obtain ⟨A, B, hAB⟩ := List.append_of_mem hp
    have hw1 : w1.heap = w.heap := by rcases hal with rfl | rfl <;> rfl
    have hbset : (setBlock w1 r (.mapIter (some b) since (seen.push e.born) clock)).heap[b]? = some (.map es clock) := by
      simp only [setBlock, Array.getElem?_setIfInBounds, hne, if_false, hw1]; exact hb
    have hrset : (setBlock w1 r (.mapIter (some b) since (seen.push e.born) clock)).heap[r]? = some (.mapIter (some b) since (seen.push e.born) clock) := heap_setBlock (by rw [hw1]; exact hrlt)
    refine ⟨p.1, p.2, A ++ B, _, by rw [hAB]; exact List.perm_middle, by rw [hpe.1, hpe.2]; exact hrun, ⟨es, clock, since, seen.push e.born, clock, hbset, h1, h2, h3, h4, h5, hrset, hold, hsk, hsk, ?_⟩, ?_, ?_, ?_⟩
    · have hnd : ((leftOf es seen).toList.map (·.born)).Nodup := by
        unfold leftOf
        rw [Array.toList_filter]
        exact ((List.filter_sublist).map _).nodup h1
      have q1 := perm_first (fun e : MapEntry => e.born) hnd he
      have q2 : (leftOf es (seen.push e.born)).toList = (leftOf es seen).toList.filter (fun x => x.born ≠ e.born) := by
        unfold leftOf
        rw [Array.toList_filter, Array.toList_filter, List.filter_filter]
        refine List.filter_congr fun x _ => ?_
        rw [contains_push]
        by_cases hx : x.born = e.born <;> simp [hx]
      rw [q2]
      have q3 := (q1.map (fun e : MapEntry => (e.key, e.val))).symm.trans hl
      rw [hAB] at q3
      have q4 : (ents K (A ++ p :: B)).Perm ((e.key, e.val) :: ents K (A ++ B)) := by
        unfold ents
        have := (List.perm_middle (a := p) (l₁ := A) (l₂ := B)).map (fun p : κ × Value => (K.kf p.1, p.2))
        rw [List.map_cons, hpe.1, hpe.2] at this
        exact this
      have q5 := q3.trans q4
      rw [List.map_cons] at q5
      exact List.Perm.cons_inv q5
    · rcases hal with rfl | rfl
      · exact (Fr.refl (fun i => i = r) w1).putObj (.inr rfl) _
      · exact (Fr.refl (fun i => i = r) w).drew.putObj (.inr rfl) _
    · simp [setBlock, hw1]
    · rw [hpe.1, hpe.2]
      exact run_entry_at _ r b since seen es clock e hrset hbset hem h1
end
end Go.Proofs.YtijhmlkehpoliaaGreatDoor
