import Derived.Maps.RangeWalk
import Derived.DeepKeys4
namespace Go.MapL
open Go.ChangeMaps Go.MapKept
open Go.Maps (Keyed)

/-- Keys of a Go type, told by a type of ours. -/
structure KeyEnc (P : Program) (k : TypeId) (κ : Type) where
  ek : κ → Value
  inj : ∀ {a b : κ}, ek a = ek b → a = b
  rd : ∀ a : κ, ∃ l, keyOf P k (ek a) = some l
  K : Keyed P k

variable {P : Program} {k : TypeId} {κ : Type}

/-- Block B is a map: m says what stands under each key, n how many entries there are. -/
def MapIs (C : KeyEnc P k κ) (w : World) (B : Nat) (m : κ → Option Value) (n : Nat) : Prop :=
  ∃ es clk, w.heap[B]? = some (.map es clk) ∧ Stamped es clk ∧ es.size = n ∧ (∀ x ∈ es.toList, ∃ q, x.key = C.ek q) ∧
    ∀ q v, m q = some v ↔ ∃ x ∈ es.toList, x.key = C.ek q ∧ x.val = v

variable {C : KeyEnc P k κ} {w : World} {B n : Nat} {m : κ → Option Value}

theorem key_one {l : List MapEntry} (h : l.Pairwise (fun x y => x.key ≠ y.key)) {x y : MapEntry} (hx : x ∈ l) (hy : y ∈ l) (e : x.key = y.key) : x = y := entry_eq_of_key h hx hy e

theorem MapIs.lt (h : MapIs C w B m n) : B < w.heap.size := by
  obtain ⟨es, clk, hb, _⟩ := h
  exact (Array.getElem?_eq_some_iff.1 hb).1

theorem MapIs.of_cell (h : MapIs C w B m n) {w' : World} (e : w'.heap[B]? = w.heap[B]?) : MapIs C w' B m n := by
  obtain ⟨es, clk, hb, r⟩ := h
  exact ⟨es, clk, e.trans hb, r⟩

theorem MapIs.nat (h : MapIs C w B m n) {m' : κ → Option Value} (e : ∀ q, m q = m' q) : MapIs C w B m' n := by
  obtain rfl : m = m' := funext e
  exact h

theorem mapIs_made (C : KeyEnc P k κ) (w : World) : MapIs C (w.alloc (.map #[] 0)) w.heap.size (fun _ => none) 0 :=
  ⟨#[], 0, (MapKept.heap_alloc w _).1, by simp [stamped_iff], rfl, by simp, by simp⟩

theorem keysOf (C : KeyEnc P k κ) {es : Array MapEntry} (h : ∀ x ∈ es.toList, ∃ q, x.key = C.ek q) : ∀ x ∈ es.toList, ∃ l, keyOf P k x.key = some l := fun x hx => by
  obtain ⟨q, e⟩ := h x hx
  obtain ⟨l, hl⟩ := C.rd q
  exact ⟨l, by rw [e, hl]⟩

/-- the search of a key. -/
theorem MapIs.search (h : MapIs C w B m n) (q : κ) : ∃ es clk, w.heap[B]? = some (.map es clk) ∧ Stamped es clk ∧ es.size = n ∧ (∀ x ∈ es.toList, ∃ q, x.key = C.ek q) ∧
    (∀ q v, m q = some v ↔ ∃ x ∈ es.toList, x.key = C.ek q ∧ x.val = v) ∧
    ((m q = none ∧ (Instr.findKey k (C.ek q) es.toList).run P w = .ok none w ∧ ∀ e ∈ es.toList, e.key ≠ C.ek q) ∨
      ∃ j e, m q = some e.val ∧ (Instr.findKey k (C.ek q) es.toList).run P w = .ok (some (j, e.val)) w ∧ es.toList[j]? = some e ∧ e.key = C.ek q) := by
  obtain ⟨es, clk, hb, hs, hn, hk, hm⟩ := h
  obtain ⟨l, hl⟩ := C.rd q
  refine ⟨es, clk, hb, hs, hn, hk, hm, ?_⟩
  rcases C.K.find w hl es.toList (keysOf C hk) with ⟨h1, h2⟩ | ⟨j, e0, h1, h2, h3⟩
  · refine Or.inl ⟨?_, h1, h2⟩
    cases hq : m q with
    | none => rfl
    | some v =>
      obtain ⟨x, hx, e, _⟩ := (hm q v).1 hq
      exact absurd e (h2 x hx)
  · exact Or.inr ⟨j, e0, (hm q e0.val).2 ⟨e0, List.mem_of_getElem? h2, h3, rfl⟩, h1, h2, h3⟩

theorem MapIs.look {t e : TypeId} (h : MapIs C w B m n) (ht : P.underlying t = some (.map k e)) {z : Value} (hz : (zeroValue e).run P w = .ok z w) (q : κ) (c : Bool) :
    (Instr.lookup t (.map (some B)) (C.ek q) c).run P w = .ok (if c then .tuple #[(m q).getD z, .bool (m q).isSome] else (m q).getD z) w := by
  obtain ⟨es, clk, hb, hs, hn, hk, hm, hc⟩ := h.search q
  obtain ⟨l, hl⟩ := C.rd q
  rcases hc with ⟨e1, h1, _⟩ | ⟨j, e0, e1, h1, _, _⟩
  · cases c <;> simp [Instr.lookup, run_underlying ht, MapKept.run_getObj_map hb, C.K.check w _ hl, h1, hz, e1, Result.andThen]
  · cases c <;> simp [Instr.lookup, run_underlying ht, MapKept.run_getObj_map hb, C.K.check w _ hl, h1, e1, Result.andThen]

open Classical in
/-- one key laid. -/
noncomputable def putV (m : κ → Option Value) (q : κ) (v : Value) : κ → Option Value := fun q' => if q' = q then some v else m q'
open Classical in
/-- one key struck. -/
noncomputable def delV (m : κ → Option Value) (q : κ) : κ → Option Value := fun q' => if q' = q then none else m q'

theorem putV_same (m : κ → Option Value) (q : κ) (v : Value) : putV m q v q = some v := by simp [putV]
theorem putV_other (m : κ → Option Value) {q q' : κ} (v : Value) (h : q' ≠ q) : putV m q v q' = m q' := by simp [putV, h]
theorem delV_same (m : κ → Option Value) (q : κ) : delV m q q = none := by simp [delV]
theorem delV_other (m : κ → Option Value) {q q' : κ} (h : q' ≠ q) : delV m q q' = m q' := by simp [delV, h]

/-- 'm[k] = v'. -/
theorem MapIs.put {t e : TypeId} (h : MapIs C w B m n) (ht : P.underlying t = some (.map k e)) (q : κ) (v : Value) :
    ∃ o, (Instr.mapUpdate t (.map (some B)) (C.ek q) v).run P w = .ok () (setBlock w B o) ∧ MapIs C (setBlock w B o) B (putV m q v) (if (m q).isSome then n else n + 1) := by
  obtain ⟨es, clk, hb, hs, hn, hk, hm, hc⟩ := h.search q
  obtain ⟨l, hl⟩ := C.rd q
  rcases hc with ⟨e1, h1, h2⟩ | ⟨j, e0, e1, h1, h2, h3⟩
  · refine ⟨.map (es.push ⟨C.ek q, v, clk⟩) (clk + 1), ?_, es.push ⟨C.ek q, v, clk⟩, clk + 1, heap_setBlock_same hb _, stamped_push hs h2, by simp [e1, hn], ?_, ?_⟩
    · simp [Instr.mapUpdate, run_underlying ht, MapKept.run_getObj_map hb, C.K.check w false hl, h1, MapKept.run_setObj_map _ hb, Result.andThen, setBlock]
    · intro x hx
      simp only [Array.toList_push, List.mem_append, List.mem_singleton] at hx
      rcases hx with hx | rfl
      · exact hk x hx
      · exact ⟨q, rfl⟩
    · intro q' v'
      by_cases hq : q' = q
      · subst hq
        rw [putV_same]
        constructor
        · rintro h
          cases h
          exact ⟨⟨C.ek q', v, clk⟩, by simp, rfl, rfl⟩
        · rintro ⟨x, hx, ek, ev⟩
          simp only [Array.toList_push, List.mem_append, List.mem_singleton] at hx
          rcases hx with hx | rfl
          · exact absurd ek (h2 x hx)
          · rw [← ev]
      · rw [putV_other m v hq, hm]
        constructor
        · rintro ⟨x, hx, ek, ev⟩
          exact ⟨x, by simp [hx], ek, ev⟩
        · rintro ⟨x, hx, ek, ev⟩
          simp only [Array.toList_push, List.mem_append, List.mem_singleton] at hx
          rcases hx with hx | rfl
          · exact ⟨x, hx, ek, ev⟩
          · exact absurd (C.inj ek).symm hq
  · have hj : es[j]? = some e0 := by simpa using h2
    have hlist : (es.modify j (fun e' => { e' with key := C.ek q, val := v })).toList = es.toList.set j { e0 with key := C.ek q, val := v } := by rw [Array.toList_modify, modify_eq_set _ _ _ _ h2]
    have hst := (stamped_iff es clk).1 hs
    have who : ∀ x, x ∈ es.toList.set j { e0 with key := C.ek q, val := v } ↔ x = { e0 with key := C.ek q, val := v } ∨ (x ∈ es.toList ∧ x.key ≠ C.ek q) := by
      intro x
      have hjl : j < es.toList.length := (List.getElem?_eq_some_iff.1 h2).1
      constructor
      · intro hx
        obtain ⟨i, hi, ex⟩ := List.getElem_of_mem hx
        rw [List.getElem_set] at ex
        split at ex
        · exact Or.inl ex.symm
        · rename_i hne
          have hi' : i < es.toList.length := by simpa using hi
          refine Or.inr ⟨ex ▸ List.getElem_mem hi', fun ek => hne ?_⟩
          have hp := List.pairwise_iff_getElem.1 hst.2.2
          have ej : es.toList[j] = e0 := (List.getElem?_eq_some_iff.1 h2).2
          rcases Nat.lt_trichotomy i j with hlt | heq | hgt
          · exact absurd (by rw [ex, ej, ek, h3]) (hp i j hi' hjl hlt)
          · exact heq.symm
          · exact absurd (by rw [ex, ej, ek, h3]) (hp j i hjl hi' hgt)
      · rintro (rfl | ⟨hx, hne⟩)
        · exact List.mem_iff_getElem.2 ⟨j, by simpa using hjl, by simp⟩
        · obtain ⟨i, hi, ex⟩ := List.getElem_of_mem hx
          refine List.mem_iff_getElem.2 ⟨i, by simpa using hi, ?_⟩
          rw [List.getElem_set, if_neg, ex]
          rintro rfl
          have ej : es.toList[j] = e0 := (List.getElem?_eq_some_iff.1 h2).2
          exact hne (by rw [← ex, ej, h3])
    refine ⟨.map (es.modify j (fun e' => { e' with key := C.ek q, val := v })) clk, ?_, es.modify j (fun e' => { e' with key := C.ek q, val := v }), clk, heap_setBlock_same hb _,
      stamped_modify hs _ _ (fun _ _ => rfl) (fun e' _ he' => by rw [hj] at he'; cases he'; exact h3.symm), by simp [e1, hn], ?_, ?_⟩
    · simp [Instr.mapUpdate, run_underlying ht, MapKept.run_getObj_map hb, C.K.check w false hl, h1, hj, h3, C.K.stays w hl, MapKept.run_setObj_map _ hb, Result.andThen, setBlock]
    · intro x hx
      rw [hlist] at hx
      rcases (who x).1 hx with rfl | ⟨hx', _⟩
      · exact ⟨q, rfl⟩
      · exact hk x hx'
    · intro q' v'
      rw [hlist]
      by_cases hq : q' = q
      · subst hq
        rw [putV_same]
        constructor
        · rintro h
          cases h
          exact ⟨_, (who _).2 (Or.inl rfl), rfl, rfl⟩
        · rintro ⟨x, hx, ek, ev⟩
          rcases (who x).1 hx with rfl | ⟨_, hne⟩
          · rw [← ev]
          · exact absurd ek hne
      · rw [putV_other m v hq, hm]
        constructor
        · rintro ⟨x, hx, ek, ev⟩
          exact ⟨x, (who x).2 (Or.inr ⟨hx, fun e2 => hq (C.inj (ek.symm.trans e2))⟩), ek, ev⟩
        · rintro ⟨x, hx, ek, ev⟩
          rcases (who x).1 hx with rfl | ⟨hx', _⟩
          · exact absurd (C.inj ek).symm hq
          · exact ⟨x, hx', ek, ev⟩

/-- 'delete(m, k)', with who is left. -/
theorem del_es {t e ty : TypeId} {es : Array MapEntry} {clk : Nat} (ht : P.underlying t = some (.map k e)) (hb : w.heap[B]? = some (.map es clk)) (hs : Stamped es clk) (hk : ∀ x ∈ es.toList, ∃ q, x.key = C.ek q) (q : κ) :
    ∃ es', (Builtin.delete_ #[t, k] ty #[.map (some B), C.ek q]).run P w = .ok (.tuple #[]) (setBlock w B (.map es' clk)) ∧ Stamped es' clk ∧ es'.toList.Sublist es.toList ∧
      (∀ x, x ∈ es'.toList ↔ x ∈ es.toList ∧ x.key ≠ C.ek q) ∧ ((∃ x ∈ es.toList, x.key = C.ek q) → es'.size + 1 = es.size) ∧ ((∀ x ∈ es.toList, x.key ≠ C.ek q) → es'.size = es.size) := by
  obtain ⟨l, hl⟩ := C.rd q
  rcases C.K.find w hl es.toList (keysOf C hk) with ⟨h1, h2⟩ | ⟨j, e0, h1, h2, h3⟩
  · refine ⟨es, ?_, hs, List.Sublist.refl _, fun x => ⟨fun hx => ⟨hx, h2 x hx⟩, fun hx => hx.1⟩, fun ⟨x, hx, e⟩ => absurd e (h2 x hx), fun _ => rfl⟩
    simp [Builtin.delete_, run_underlying ht, MapKept.run_getObj_map hb, C.K.check w _ hl, h1, MapKept.run_setObj_map _ hb, Result.andThen, setBlock]
  · have hjl : j < es.toList.length := (List.getElem?_eq_some_iff.1 h2).1
    have hjs : j < es.size := by simpa using hjl
    have hst := (stamped_iff es clk).1 hs
    have hsub : (es.eraseIdxIfInBounds j).toList = es.toList.eraseIdx j := by
      unfold Array.eraseIdxIfInBounds
      rw [dif_pos hjs]
      simp
    have ej : es.toList[j] = e0 := (List.getElem?_eq_some_iff.1 h2).2
    have hp := List.pairwise_iff_getElem.1 hst.2.2
    have hm0 : e0 ∈ es.toList := List.mem_of_getElem? h2
    refine ⟨es.eraseIdxIfInBounds j, ?_, stamped_erase hs j, by rw [hsub]; exact List.eraseIdx_sublist _ _, fun x => ?_, fun _ => ?_, fun h => absurd h3 (h e0 hm0)⟩
    · simp [Builtin.delete_, run_underlying ht, MapKept.run_getObj_map hb, C.K.check w _ hl, h1, MapKept.run_setObj_map _ hb, Result.andThen, setBlock]
    · rw [hsub, List.mem_eraseIdx_iff_getElem?]
      constructor
      · rintro ⟨i, hne, hi⟩
        obtain ⟨hil, ei⟩ := List.getElem?_eq_some_iff.1 hi
        refine ⟨List.mem_of_getElem? hi, fun ek => ?_⟩
        rcases Nat.lt_or_gt_of_ne hne with hlt | hgt
        · exact absurd (by rw [ei, ej, ek, h3]) (hp i j hil hjl hlt)
        · exact absurd (by rw [ei, ej, ek, h3]) (hp j i hjl hil hgt)
      · rintro ⟨hx, hne⟩
        obtain ⟨i, hi, ex⟩ := List.getElem_of_mem hx
        refine ⟨i, ?_, by rw [List.getElem?_eq_getElem hi, ex]⟩
        rintro rfl
        exact hne (by rw [← ex, ej, h3])
    · have e2 := congrArg List.length hsub
      rw [List.length_eraseIdx, if_pos hjl] at e2
      simp only [Array.length_toList] at e2
      omega

theorem delV_iff {es es' : Array MapEntry} {q : κ} (hm : ∀ q v, m q = some v ↔ ∃ x ∈ es.toList, x.key = C.ek q ∧ x.val = v) (who : ∀ x, x ∈ es'.toList ↔ x ∈ es.toList ∧ x.key ≠ C.ek q) (q' : κ) (v' : Value) :
    delV m q q' = some v' ↔ ∃ x ∈ es'.toList, x.key = C.ek q' ∧ x.val = v' := by
  by_cases hq : q' = q
  · subst hq
    rw [delV_same]
    refine ⟨fun h => (by cases h), ?_⟩
    rintro ⟨x, hx, ek, _⟩
    exact absurd ek ((who x).1 hx).2
  · rw [delV_other m hq, hm]
    constructor
    · rintro ⟨x, hx, ek, ev⟩
      exact ⟨x, (who x).2 ⟨hx, fun e2 => hq (C.inj (ek.symm.trans e2))⟩, ek, ev⟩
    · rintro ⟨x, hx, ek, ev⟩
      exact ⟨x, ((who x).1 hx).1, ek, ev⟩

theorem del_size {es es' : Array MapEntry} {q : κ} (hm : ∀ q v, m q = some v ↔ ∃ x ∈ es.toList, x.key = C.ek q ∧ x.val = v)
    (h1 : (∃ x ∈ es.toList, x.key = C.ek q) → es'.size + 1 = es.size) (h2 : (∀ x ∈ es.toList, x.key ≠ C.ek q) → es'.size = es.size) (hn : es.size = n) : es'.size = if (m q).isSome then n - 1 else n := by
  cases hq : m q with
  | none =>
    rw [h2 (fun x hx e => by have := (hm q x.val).2 ⟨x, hx, e, rfl⟩; rw [hq] at this; cases this)]
    simp [hn]
  | some v =>
    obtain ⟨x, hx, e, _⟩ := (hm q v).1 hq
    have := h1 ⟨x, hx, e⟩
    simp
    omega

/-- 'delete(m, k)'. -/
theorem MapIs.del {t e ty : TypeId} (h : MapIs C w B m n) (ht : P.underlying t = some (.map k e)) (q : κ) :
    ∃ o, (Builtin.delete_ #[t, k] ty #[.map (some B), C.ek q]).run P w = .ok (.tuple #[]) (setBlock w B o) ∧ MapIs C (setBlock w B o) B (delV m q) (if (m q).isSome then n - 1 else n) := by
  obtain ⟨es, clk, hb, hs, hn, hk, hm⟩ := h
  obtain ⟨es', hrun, hs', hsub, who, z1, z2⟩ := del_es (ty := ty) ht hb hs hk q
  exact ⟨_, hrun, es', clk, heap_setBlock_same hb _, hs', del_size hm z1 z2 hn, fun x hx => hk x ((who x).1 hx).1, fun q' v' => delV_iff hm who q' v'⟩

/-- A range over the map B, its iterator in r: 'left' says which keys are still to come. -/
def Ranging (C : KeyEnc P k κ) (w : World) (B r : Nat) (m : κ → Option Value) (n : Nat) (left : κ → Prop) (cnt : Nat) : Prop :=
  ∃ es clk since seen c0, w.heap[B]? = some (.map es clk) ∧ Stamped es clk ∧ es.size = n ∧ (∀ x ∈ es.toList, ∃ q, x.key = C.ek q) ∧
    (∀ q v, m q = some v ↔ ∃ x ∈ es.toList, x.key = C.ek q ∧ x.val = v) ∧
    w.heap[r]? = some (.mapIter (some B) since seen c0) ∧ (∀ x ∈ es.toList, x.born < since) ∧ since ≤ c0 ∧ since ≤ clk ∧ (leftOf es seen).size = cnt ∧
    ∀ q, left q ↔ ∃ x ∈ es.toList, x.key = C.ek q ∧ seen.contains x.born = false

variable {r cnt : Nat} {left : κ → Prop}

theorem Ranging.is (h : Ranging C w B r m n left cnt) : MapIs C w B m n := by
  obtain ⟨es, clk, _, _, _, hb, hs, hn, hk, hm, _⟩ := h
  exact ⟨es, clk, hb, hs, hn, hk, hm⟩

theorem Ranging.of_cells (h : Ranging C w B r m n left cnt) {w' : World} (e : w'.heap[B]? = w.heap[B]?) (e' : w'.heap[r]? = w.heap[r]?) : Ranging C w' B r m n left cnt := by
  obtain ⟨es, clk, since, seen, c0, hb, hs, hn, hk, hm, hr, z⟩ := h
  exact ⟨es, clk, since, seen, c0, e.trans hb, hs, hn, hk, hm, e'.trans hr, z⟩

theorem Ranging.lt (h : Ranging C w B r m n left cnt) : r < w.heap.size := by
  obtain ⟨_, _, _, _, _, _, _, _, _, _, hr, _⟩ := h
  exact (Array.getElem?_eq_some_iff.1 hr).1

theorem Ranging.ne (h : Ranging C w B r m n left cnt) : r ≠ B := by
  obtain ⟨_, _, _, _, _, hb, _, _, _, _, hr, _⟩ := h
  rintro rfl
  rw [hb] at hr
  cases hr

/-- 'range m'. -/
theorem MapIs.range {t e : TypeId} (h : MapIs C w B m n) (ht : P.underlying t = some (.map k e)) :
    ∃ o, (Instr.range t (.map (some B))).run P w = .ok (.pointer (some ⟨w.heap.size, 0, none⟩)) (w.alloc o) ∧ Ranging C (w.alloc o) B w.heap.size m n (fun q => (m q).isSome = true) n := by
  have hlt := h.lt
  obtain ⟨es, clk, hb, hs, hn, hk, hm⟩ := h
  refine ⟨_, run_range_map w t k e B es clk ht hb, es, clk, clk, #[], clk, ((MapKept.heap_alloc w _).2 B hlt).trans hb, hs, hn, hk, hm, (MapKept.heap_alloc w _).1, ((stamped_iff es clk).1 hs).1, Nat.le_refl _, Nat.le_refl _, by rw [← hn]; simp [leftOf], fun q => ?_⟩
  constructor
  · intro hq
    obtain ⟨v, hv⟩ := Option.isSome_iff_exists.1 hq
    obtain ⟨x, hx, ek, _⟩ := (hm q v).1 hv
    exact ⟨x, hx, ek, by simp⟩
  · rintro ⟨x, hx, ek, _⟩
    rw [(hm q x.val).2 ⟨x, hx, ek, rfl⟩]
    rfl

/-- THE STEP. -/
theorem Ranging.next (h : Ranging C w B r m n left cnt) (ty : TypeId) :
    (cnt = 0 ∧ (∀ q, ¬ left q) ∧ (Instr.next (.pointer (some ⟨r, 0, none⟩)) false ty).run P w = .ok (.tuple #[.bool false]) w) ∨
    ∃ q v w1 o cnt', left q ∧ m q = some v ∧ (w1 = w ∨ w1 = w.drew) ∧ (Instr.next (.pointer (some ⟨r, 0, none⟩)) false ty).run P w = .ok (.tuple #[.bool true, C.ek q, v]) (setBlock w1 r o) ∧
      Ranging C (setBlock w1 r o) B r m n (fun q' => left q' ∧ q' ≠ q) cnt' ∧ cnt' < cnt ∧
      (Instr.entry (.pointer (some ⟨r, 0, none⟩))).run P (setBlock w1 r o) = .ok (.tuple #[C.ek q, v]) (setBlock w1 r o) := by
  have hne := h.ne
  obtain ⟨es, clk, since, seen, c0, hb, hs, hn, hk, hm, hr, hold, hsc, hsk, rfl, hl⟩ := h
  have hst := (stamped_iff es clk).1 hs
  rcases run_next_at (P := P) w ty r B since c0 seen es clk hr hb hold hsc with ⟨h0, hrun⟩ | ⟨e, he, w1, hal, hrun⟩
  · refine Or.inl ⟨h0, fun q hq => ?_, hrun⟩
    obtain ⟨x, hx, _, hsx⟩ := (hl q).1 hq
    rw [all_seen es seen h0 x hx] at hsx
    cases hsx
  · obtain ⟨hem, hes⟩ := mem_left he
    obtain ⟨q, hq⟩ := hk e hem
    have hr1 : w1.heap[r]? = some (.mapIter (some B) since seen c0) := by rcases hal with rfl | rfl <;> exact hr
    have hb1 : w1.heap[B]? = some (.map es clk) := by rcases hal with rfl | rfl <;> exact hb
    have hset := heap_set (o' := .mapIter (some B) since (seen.push e.born) clk) hr1
    have hb' : (setBlock w1 r (.mapIter (some B) since (seen.push e.born) clk)).heap[B]? = some (.map es clk) := (hset.2 B (fun e1 => hne e1.symm)).trans hb1
    have hen := run_entry_at (P := P) _ r B since seen es clk e hset.1 hb' hem hst.2.1
    rw [hq] at hrun hen
    refine Or.inr ⟨q, e.val, w1, _, _, (hl q).2 ⟨e, hem, hq, hes⟩, (hm q e.val).2 ⟨e, hem, hq, rfl⟩, hal, hrun,
      ⟨es, clk, since, seen.push e.born, clk, hb', hs, hn, hk, hm, hset.1, hold, hsk, hsk, rfl, fun q' => ?_⟩, left_shrinks es seen e he, hen⟩
    show (left q' ∧ q' ≠ q) ↔ _
    rw [hl q']
    constructor
    · rintro ⟨⟨x, hx, ek, hsx⟩, hqq⟩
      refine ⟨x, hx, ek, ?_⟩
      rw [contains_push, hsx, Bool.false_or, beq_eq_false_iff_ne]
      intro eb
      obtain rfl := born_inj hst.2.1 hx hem eb
      exact hqq (C.inj (ek.symm.trans hq))
    · rintro ⟨x, hx, ek, hsx⟩
      rw [contains_push, Bool.or_eq_false_iff, beq_eq_false_iff_ne] at hsx
      refine ⟨⟨x, hx, ek, hsx.1⟩, ?_⟩
      rintro rfl
      exact hsx.2 (congrArg MapEntry.born (key_one hst.2.2 hx hem (ek.trans hq.symm)))

/-- 'delete(m, k)' IN THE ROUND. -/
theorem Ranging.del {t e ty : TypeId} (h : Ranging C w B r m n left cnt) (ht : P.underlying t = some (.map k e)) (q : κ) :
    ∃ o cnt', (Builtin.delete_ #[t, k] ty #[.map (some B), C.ek q]).run P w = .ok (.tuple #[]) (setBlock w B o) ∧
      Ranging C (setBlock w B o) B r (delV m q) (if (m q).isSome then n - 1 else n) (fun q' => left q' ∧ q' ≠ q) cnt' ∧ cnt' ≤ cnt := by
  have hne := h.ne
  obtain ⟨es, clk, since, seen, c0, hb, hs, hn, hk, hm, hr, hold, hsc, hsk, rfl, hl⟩ := h
  obtain ⟨es', hrun, hs', hsub, who, z1, z2⟩ := del_es (ty := ty) ht hb hs hk q
  refine ⟨_, _, hrun, ⟨es', clk, since, seen, c0, heap_setBlock_same hb _, hs', del_size hm z1 z2 hn, fun x hx => hk x ((who x).1 hx).1, fun q' v' => delV_iff hm who q' v',
    (heap_setBlock_other hb _ hne).trans hr, fun x hx => hold x ((who x).1 hx).1, hsc, hsk, rfl, fun q' => ?_⟩, ?_⟩
  · show (left q' ∧ q' ≠ q) ↔ _
    rw [hl q']
    constructor
    · rintro ⟨⟨x, hx, ek, hsx⟩, hqq⟩
      exact ⟨x, (who x).2 ⟨hx, fun e2 => hqq (C.inj (ek.symm.trans e2))⟩, ek, hsx⟩
    · rintro ⟨x, hx, ek, hsx⟩
      obtain ⟨hx1, hx2⟩ := (who x).1 hx
      refine ⟨⟨x, hx1, ek, hsx⟩, ?_⟩
      rintro rfl
      exact hx2 ek
  · have e1 : ∀ a : Array MapEntry, (leftOf a seen).size = (a.toList.filter fun e => !seen.contains e.born).length := fun a => by
      unfold leftOf
      rw [← Array.toList_filter, Array.length_toList]
    rw [e1, e1]
    exact (hsub.filter _).length_le

/-! ## At the operations, for the walk -/
section
variable {ops : Array Oper} {rest : List Oper} {o : Oper} {a : Act} {Q : Exit → Act → World → Prop}

/-- 'm[k]'. -/
theorem wl_look (hg : o.guard = none) (mo x : Operand) (t : TypeId) (hop : o.op = Op.lookup t mo x false) (e : TypeId) (ht : P.underlying t = some (.map k e)) {z : Value} (hz : (zeroValue e).run P w = .ok z w)
    (hm : a.eval mo = .map (some B)) (h : MapIs C w B m n) (q : κ) (hx : a.eval x = C.ek q) (hK : wpList P ops Q rest (a.put o.dst ((m q).getD z)) w) : wpList P ops Q (o :: rest) a w := by
  refine wpList_plain hg fun K' hK' => ?_
  have hrun := h.look ht hz q false
  unfold Oper.wp
  simp [execOp, hop, hm, hx, hrun, Result.andThen]
  exact hK' _ _ hK

/-- 'v, ok := m[k]'. -/
theorem wl_look2 (hg : o.guard = none) (mo x : Operand) (t : TypeId) (hop : o.op = Op.lookup t mo x true) (e : TypeId) (ht : P.underlying t = some (.map k e)) {z : Value} (hz : (zeroValue e).run P w = .ok z w)
    (hm : a.eval mo = .map (some B)) (h : MapIs C w B m n) (q : κ) (hx : a.eval x = C.ek q) (hK : wpList P ops Q rest (a.put o.dst (.tuple #[(m q).getD z, .bool (m q).isSome])) w) : wpList P ops Q (o :: rest) a w := by
  refine wpList_plain hg fun K' hK' => ?_
  have hrun := h.look ht hz q true
  unfold Oper.wp
  simp [execOp, hop, hm, hx, hrun, Result.andThen]
  exact hK' _ _ hK

/-- 'm[k] = v'. -/
theorem wl_put (hg : o.guard = none) (mo x v : Operand) (t : TypeId) (hop : o.op = Op.mapUpdate t mo x v) (e : TypeId) (ht : P.underlying t = some (.map k e))
    (hm : a.eval mo = .map (some B)) (h : MapIs C w B m n) (q : κ) (hx : a.eval x = C.ek q)
    (hK : ∀ ob, MapIs C (setBlock w B ob) B (putV m q (a.eval v)) (if (m q).isSome then n else n + 1) → wpList P ops Q rest (a.put o.dst undef) (setBlock w B ob)) : wpList P ops Q (o :: rest) a w := by
  refine wpList_plain hg fun K' hK' => ?_
  obtain ⟨ob, hrun, h'⟩ := h.put ht q (a.eval v)
  unfold Oper.wp
  simp [execOp, hop, hm, hx, hrun, Result.andThen]
  exact hK' _ _ (hK ob h')

/-- 'delete(m, k)'. -/
theorem wl_del (hg : o.guard = none) (mo x : Operand) (t : TypeId) (hop : o.op = Op.call { callee := Callee.builtin Builtin.delete, args := #[mo, x], argTypes := #[t, k] }) (e : TypeId) (ht : P.underlying t = some (.map k e))
    (hm : a.eval mo = .map (some B)) (h : MapIs C w B m n) (q : κ) (hx : a.eval x = C.ek q)
    (hK : ∀ ob, MapIs C (setBlock w B ob) B (delV m q) (if (m q).isSome then n - 1 else n) → wpList P ops Q rest (a.put o.dst (.tuple #[])) (setBlock w B ob)) : wpList P ops Q (o :: rest) a w := by
  refine wpList_plain hg fun K' hK' => ?_
  obtain ⟨ob, hrun, h'⟩ := h.del (ty := o.type) ht q
  unfold Oper.wp
  simp [execOp, hop, resolve, invoke, builtin, hm, hx, hrun, Result.andThen]
  exact hK' _ _ (hK ob h')

/-- 'delete(m, k)' in a round. -/
theorem wl_del_r (hg : o.guard = none) (mo x : Operand) (t : TypeId) (hop : o.op = Op.call { callee := Callee.builtin Builtin.delete, args := #[mo, x], argTypes := #[t, k] }) (e : TypeId) (ht : P.underlying t = some (.map k e))
    (hm : a.eval mo = .map (some B)) (h : Ranging C w B r m n left cnt) (q : κ) (hx : a.eval x = C.ek q)
    (hK : ∀ ob cnt', Ranging C (setBlock w B ob) B r (delV m q) (if (m q).isSome then n - 1 else n) (fun q' => left q' ∧ q' ≠ q) cnt' → cnt' ≤ cnt → wpList P ops Q rest (a.put o.dst (.tuple #[])) (setBlock w B ob)) : wpList P ops Q (o :: rest) a w := by
  refine wpList_plain hg fun K' hK' => ?_
  obtain ⟨ob, cnt', hrun, h', hc⟩ := h.del (ty := o.type) ht q
  unfold Oper.wp
  simp [execOp, hop, resolve, invoke, builtin, hm, hx, hrun, Result.andThen]
  exact hK' _ _ (hK ob cnt' h' hc)

/-- 'range m'. -/
theorem wl_range (hg : o.guard = none) (mo : Operand) (t : TypeId) (hop : o.op = Op.range t mo) (e : TypeId) (ht : P.underlying t = some (.map k e))
    (hm : a.eval mo = .map (some B)) (h : MapIs C w B m n)
    (hK : ∀ ob, Ranging C (w.alloc ob) B w.heap.size m n (fun q => (m q).isSome = true) n → wpList P ops Q rest (a.put o.dst (.pointer (some ⟨w.heap.size, 0, none⟩))) (w.alloc ob)) : wpList P ops Q (o :: rest) a w := by
  refine wpList_plain hg fun K' hK' => ?_
  obtain ⟨ob, hrun, h'⟩ := h.range ht
  unfold Oper.wp
  simp [execOp, hop, hm, hrun, Result.andThen]
  exact hK' _ _ (hK ob h')

/-- THE STEP. -/
theorem wl_next (hg : o.guard = none) (it : Operand) (hop : o.op = Op.next it false) (hit : a.eval it = .pointer (some ⟨r, 0, none⟩)) (h : Ranging C w B r m n left cnt)
    (hDone : cnt = 0 → (∀ q, ¬ left q) → wpList P ops Q rest (a.put o.dst (.tuple #[.bool false])) w)
    (hMore : ∀ q v w1 ob cnt', left q → m q = some v → (w1 = w ∨ w1 = w.drew) → Ranging C (setBlock w1 r ob) B r m n (fun q' => left q' ∧ q' ≠ q) cnt' → cnt' < cnt →
      (Instr.entry (.pointer (some ⟨r, 0, none⟩))).run P (setBlock w1 r ob) = .ok (.tuple #[C.ek q, v]) (setBlock w1 r ob) → wpList P ops Q rest (a.put o.dst (.tuple #[.bool true, C.ek q, v])) (setBlock w1 r ob)) :
    wpList P ops Q (o :: rest) a w := by
  refine wpList_plain hg fun K' hK' => ?_
  unfold Oper.wp
  rcases h.next o.type with ⟨h0, hl, hrun⟩ | ⟨q, v, w1, ob, cnt', hq, hv, hw, hrun, h', hc, hen⟩
  · simp [execOp, hop, hit, hrun, Result.andThen]
    exact hK' _ _ (hDone h0 hl)
  · simp [execOp, hop, hit, hrun, Result.andThen]
    exact hK' _ _ (hMore q v w1 ob cnt' hq hv hw h' hc hen)

end

end Go.MapL
