/-  The key of the device's maps: 32 bytes. A nil device. Copies: bytes.Clone, slices.Clone, bytes.Equal. Choices that may be. The device's memory; New. -/
import Derived.Maps.RangeWalk
import Derived.DeepKeys4
import Derived.Test.YtcbglojjbgenlaaGroA
import Derived.Lib.SliceRun
import Derived.Deep.WholeRow
import Derived.Deep.MidRow
namespace Go.MapL
open Go.ChangeMaps Go.MapKept
open Go.Maps (Keyed)

/-- Keys of a Go type, told by a type of ours. -/
structure KeyEnc (P : Program) (k : TypeId) (κ : Type) where
  ek : κ → Value
  inj : ∀ {a b : κ}, ek a = ek b → a = b
  rd : ∀ a : κ, ∃ l, keyOf P k (ek a) = some l
  K : Keyed P k

variable {P : Program} {k : TypeId} {κ : Type}

/-- Block B is a map: m says what stands under each key, n how many entries there are. -/
def MapIs (C : KeyEnc P k κ) (w : World) (B : Nat) (m : κ → Option Value) (n : Nat) : Prop :=
  ∃ es clk, w.heap[B]? = some (.map es clk) ∧ Stamped es clk ∧ es.size = n ∧ (∀ x ∈ es.toList, ∃ q, x.key = C.ek q) ∧
    ∀ q v, m q = some v ↔ ∃ x ∈ es.toList, x.key = C.ek q ∧ x.val = v

variable {C : KeyEnc P k κ} {w : World} {B n : Nat} {m : κ → Option Value}

theorem key_one {l : List MapEntry} (h : l.Pairwise (fun x y => x.key ≠ y.key)) {x y : MapEntry} (hx : x ∈ l) (hy : y ∈ l) (e : x.key = y.key) : x = y := entry_eq_of_key h hx hy e

theorem MapIs.lt (h : MapIs C w B m n) : B < w.heap.size := by
  obtain ⟨es, clk, hb, _⟩ := h
  exact (Array.getElem?_eq_some_iff.1 hb).1

theorem MapIs.of_cell (h : MapIs C w B m n) {w' : World} (e : w'.heap[B]? = w.heap[B]?) : MapIs C w' B m n := by
  obtain ⟨es, clk, hb, r⟩ := h
  exact ⟨es, clk, e.trans hb, r⟩

theorem MapIs.nat (h : MapIs C w B m n) {m' : κ → Option Value} (e : ∀ q, m q = m' q) : MapIs C w B m' n := by
  obtain rfl : m = m' := funext e
  exact h

theorem mapIs_made (C : KeyEnc P k κ) (w : World) : MapIs C (w.alloc (.map #[] 0)) w.heap.size (fun _ => none) 0 :=
  ⟨#[], 0, (MapKept.heap_alloc w _).1, by simp [stamped_iff], rfl, by simp, by simp⟩

theorem keysOf (C : KeyEnc P k κ) {es : Array MapEntry} (h : ∀ x ∈ es.toList, ∃ q, x.key = C.ek q) : ∀ x ∈ es.toList, ∃ l, keyOf P k x.key = some l := fun x hx => by
  obtain ⟨q, e⟩ := h x hx
  obtain ⟨l, hl⟩ := C.rd q
  exact ⟨l, by rw [e, hl]⟩

/-- the search of a key. -/
theorem MapIs.search (h : MapIs C w B m n) (q : κ) : ∃ es clk, w.heap[B]? = some (.map es clk) ∧ Stamped es clk ∧ es.size = n ∧ (∀ x ∈ es.toList, ∃ q, x.key = C.ek q) ∧
    (∀ q v, m q = some v ↔ ∃ x ∈ es.toList, x.key = C.ek q ∧ x.val = v) ∧
    ((m q = none ∧ (Instr.findKey k (C.ek q) es.toList).run P w = .ok none w ∧ ∀ e ∈ es.toList, e.key ≠ C.ek q) ∨
      ∃ j e, m q = some e.val ∧ (Instr.findKey k (C.ek q) es.toList).run P w = .ok (some (j, e.val)) w ∧ es.toList[j]? = some e ∧ e.key = C.ek q) := by
  obtain ⟨es, clk, hb, hs, hn, hk, hm⟩ := h
  obtain ⟨l, hl⟩ := C.rd q
  refine ⟨es, clk, hb, hs, hn, hk, hm, ?_⟩
  rcases C.K.find w hl es.toList (keysOf C hk) with ⟨h1, h2⟩ | ⟨j, e0, h1, h2, h3⟩
  · refine Or.inl ⟨?_, h1, h2⟩
    cases hq : m q with
    | none => rfl
    | some v =>
      obtain ⟨x, hx, e, _⟩ := (hm q v).1 hq
      exact absurd e (h2 x hx)
  · exact Or.inr ⟨j, e0, (hm q e0.val).2 ⟨e0, List.mem_of_getElem? h2, h3, rfl⟩, h1, h2, h3⟩

theorem MapIs.look {t e : TypeId} (h : MapIs C w B m n) (ht : P.underlying t = some (.map k e)) {z : Value} (hz : (zeroValue e).run P w = .ok z w) (q : κ) (c : Bool) :
    (Instr.lookup t (.map (some B)) (C.ek q) c).run P w = .ok (if c then .tuple #[(m q).getD z, .bool (m q).isSome] else (m q).getD z) w := by
  obtain ⟨es, clk, hb, hs, hn, hk, hm, hc⟩ := h.search q
  obtain ⟨l, hl⟩ := C.rd q
  rcases hc with ⟨e1, h1, _⟩ | ⟨j, e0, e1, h1, _, _⟩
  · cases c <;> simp [Instr.lookup, run_underlying ht, MapKept.run_getObj_map hb, C.K.check w _ hl, h1, hz, e1, Result.andThen]
  · cases c <;> simp [Instr.lookup, run_underlying ht, MapKept.run_getObj_map hb, C.K.check w _ hl, h1, e1, Result.andThen]

open Classical in
/-- one key laid. -/
noncomputable def putV (m : κ → Option Value) (q : κ) (v : Value) : κ → Option Value := fun q' => if q' = q then some v else m q'
open Classical in
/-- one key struck. -/
noncomputable def delV (m : κ → Option Value) (q : κ) : κ → Option Value := fun q' => if q' = q then none else m q'

theorem putV_same (m : κ → Option Value) (q : κ) (v : Value) : putV m q v q = some v := by simp [putV]
theorem putV_other (m : κ → Option Value) {q q' : κ} (v : Value) (h : q' ≠ q) : putV m q v q' = m q' := by simp [putV, h]
theorem delV_same (m : κ → Option Value) (q : κ) : delV m q q = none := by simp [delV]
theorem delV_other (m : κ → Option Value) {q q' : κ} (h : q' ≠ q) : delV m q q' = m q' := by simp [delV, h]

/-- 'm[k] = v'. -/
theorem MapIs.put {t e : TypeId} (h : MapIs C w B m n) (ht : P.underlying t = some (.map k e)) (q : κ) (v : Value) :
    ∃ o, (Instr.mapUpdate t (.map (some B)) (C.ek q) v).run P w = .ok () (setBlock w B o) ∧ MapIs C (setBlock w B o) B (putV m q v) (if (m q).isSome then n else n + 1) := by
  obtain ⟨es, clk, hb, hs, hn, hk, hm, hc⟩ := h.search q
  obtain ⟨l, hl⟩ := C.rd q
  rcases hc with ⟨e1, h1, h2⟩ | ⟨j, e0, e1, h1, h2, h3⟩
  · refine ⟨.map (es.push ⟨C.ek q, v, clk⟩) (clk + 1), ?_, es.push ⟨C.ek q, v, clk⟩, clk + 1, heap_setBlock_same hb _, stamped_push hs h2, by simp [e1, hn], ?_, ?_⟩
    · simp [Instr.mapUpdate, run_underlying ht, MapKept.run_getObj_map hb, C.K.check w false hl, h1, MapKept.run_setObj_map _ hb, Result.andThen, setBlock]
    · intro x hx
      simp only [Array.toList_push, List.mem_append, List.mem_singleton] at hx
      rcases hx with hx | rfl
      · exact hk x hx
      · exact ⟨q, rfl⟩
    · intro q' v'
      by_cases hq : q' = q
      · subst hq
        rw [putV_same]
        constructor
        · rintro h
          cases h
          exact ⟨⟨C.ek q', v, clk⟩, by simp, rfl, rfl⟩
        · rintro ⟨x, hx, ek, ev⟩
          simp only [Array.toList_push, List.mem_append, List.mem_singleton] at hx
          rcases hx with hx | rfl
          · exact absurd ek (h2 x hx)
          · rw [← ev]
      · rw [putV_other m v hq, hm]
        constructor
        · rintro ⟨x, hx, ek, ev⟩
          exact ⟨x, by simp [hx], ek, ev⟩
        · rintro ⟨x, hx, ek, ev⟩
          simp only [Array.toList_push, List.mem_append, List.mem_singleton] at hx
          rcases hx with hx | rfl
          · exact ⟨x, hx, ek, ev⟩
          · exact absurd (C.inj ek).symm hq
  · have hj : es[j]? = some e0 := by simpa using h2
    have hlist : (es.modify j (fun e' => { e' with key := C.ek q, val := v })).toList = es.toList.set j { e0 with key := C.ek q, val := v } := by rw [Array.toList_modify, modify_eq_set _ _ _ _ h2]
    have hst := (stamped_iff es clk).1 hs
    have who : ∀ x, x ∈ es.toList.set j { e0 with key := C.ek q, val := v } ↔ x = { e0 with key := C.ek q, val := v } ∨ (x ∈ es.toList ∧ x.key ≠ C.ek q) := by
      intro x
      have hjl : j < es.toList.length := (List.getElem?_eq_some_iff.1 h2).1
      constructor
      · intro hx
        obtain ⟨i, hi, ex⟩ := List.getElem_of_mem hx
        rw [List.getElem_set] at ex
        split at ex
        · exact Or.inl ex.symm
        · rename_i hne
          have hi' : i < es.toList.length := by simpa using hi
          refine Or.inr ⟨ex ▸ List.getElem_mem hi', fun ek => hne ?_⟩
          have hp := List.pairwise_iff_getElem.1 hst.2.2
          have ej : es.toList[j] = e0 := (List.getElem?_eq_some_iff.1 h2).2
          rcases Nat.lt_trichotomy i j with hlt | heq | hgt
          · exact absurd (by rw [ex, ej, ek, h3]) (hp i j hi' hjl hlt)
          · exact heq.symm
          · exact absurd (by rw [ex, ej, ek, h3]) (hp j i hjl hi' hgt)
      · rintro (rfl | ⟨hx, hne⟩)
        · exact List.mem_iff_getElem.2 ⟨j, by simpa using hjl, by simp⟩
        · obtain ⟨i, hi, ex⟩ := List.getElem_of_mem hx
          refine List.mem_iff_getElem.2 ⟨i, by simpa using hi, ?_⟩
          rw [List.getElem_set, if_neg, ex]
          rintro rfl
          have ej : es.toList[j] = e0 := (List.getElem?_eq_some_iff.1 h2).2
          exact hne (by rw [← ex, ej, h3])
    refine ⟨.map (es.modify j (fun e' => { e' with key := C.ek q, val := v })) clk, ?_, es.modify j (fun e' => { e' with key := C.ek q, val := v }), clk, heap_setBlock_same hb _,
      stamped_modify hs _ _ (fun _ _ => rfl) (fun e' _ he' => by rw [hj] at he'; cases he'; exact h3.symm), by simp [e1, hn], ?_, ?_⟩
    · simp [Instr.mapUpdate, run_underlying ht, MapKept.run_getObj_map hb, C.K.check w false hl, h1, hj, h3, C.K.stays w hl, MapKept.run_setObj_map _ hb, Result.andThen, setBlock]
    · intro x hx
      rw [hlist] at hx
      rcases (who x).1 hx with rfl | ⟨hx', _⟩
      · exact ⟨q, rfl⟩
      · exact hk x hx'
    · intro q' v'
      rw [hlist]
      by_cases hq : q' = q
      · subst hq
        rw [putV_same]
        constructor
        · rintro h
          cases h
          exact ⟨_, (who _).2 (Or.inl rfl), rfl, rfl⟩
        · rintro ⟨x, hx, ek, ev⟩
          rcases (who x).1 hx with rfl | ⟨_, hne⟩
          · rw [← ev]
          · exact absurd ek hne
      · rw [putV_other m v hq, hm]
        constructor
        · rintro ⟨x, hx, ek, ev⟩
          exact ⟨x, (who x).2 (Or.inr ⟨hx, fun e2 => hq (C.inj (ek.symm.trans e2))⟩), ek, ev⟩
        · rintro ⟨x, hx, ek, ev⟩
          rcases (who x).1 hx with rfl | ⟨hx', _⟩
          · exact absurd (C.inj ek).symm hq
          · exact ⟨x, hx', ek, ev⟩

/-- 'delete(m, k)', with who is left. -/
theorem del_es {t e ty : TypeId} {es : Array MapEntry} {clk : Nat} (ht : P.underlying t = some (.map k e)) (hb : w.heap[B]? = some (.map es clk)) (hs : Stamped es clk) (hk : ∀ x ∈ es.toList, ∃ q, x.key = C.ek q) (q : κ) :
    ∃ es', (Builtin.delete_ #[t, k] ty #[.map (some B), C.ek q]).run P w = .ok (.tuple #[]) (setBlock w B (.map es' clk)) ∧ Stamped es' clk ∧ es'.toList.Sublist es.toList ∧
      (∀ x, x ∈ es'.toList ↔ x ∈ es.toList ∧ x.key ≠ C.ek q) ∧ ((∃ x ∈ es.toList, x.key = C.ek q) → es'.size + 1 = es.size) ∧ ((∀ x ∈ es.toList, x.key ≠ C.ek q) → es'.size = es.size) := by
  obtain ⟨l, hl⟩ := C.rd q
  rcases C.K.find w hl es.toList (keysOf C hk) with ⟨h1, h2⟩ | ⟨j, e0, h1, h2, h3⟩
  · refine ⟨es, ?_, hs, List.Sublist.refl _, fun x => ⟨fun hx => ⟨hx, h2 x hx⟩, fun hx => hx.1⟩, fun ⟨x, hx, e⟩ => absurd e (h2 x hx), fun _ => rfl⟩
    simp [Builtin.delete_, run_underlying ht, MapKept.run_getObj_map hb, C.K.check w _ hl, h1, MapKept.run_setObj_map _ hb, Result.andThen, setBlock]
  · have hjl : j < es.toList.length := (List.getElem?_eq_some_iff.1 h2).1
    have hjs : j < es.size := by simpa using hjl
    have hst := (stamped_iff es clk).1 hs
    have hsub : (es.eraseIdxIfInBounds j).toList = es.toList.eraseIdx j := by
      unfold Array.eraseIdxIfInBounds
      rw [dif_pos hjs]
      simp
    have ej : es.toList[j] = e0 := (List.getElem?_eq_some_iff.1 h2).2
    have hp := List.pairwise_iff_getElem.1 hst.2.2
    have hm0 : e0 ∈ es.toList := List.mem_of_getElem? h2
    refine ⟨es.eraseIdxIfInBounds j, ?_, stamped_erase hs j, by rw [hsub]; exact List.eraseIdx_sublist _ _, fun x => ?_, fun _ => ?_, fun h => absurd h3 (h e0 hm0)⟩
    · simp [Builtin.delete_, run_underlying ht, MapKept.run_getObj_map hb, C.K.check w _ hl, h1, MapKept.run_setObj_map _ hb, Result.andThen, setBlock]
    · rw [hsub, List.mem_eraseIdx_iff_getElem?]
      constructor
      · rintro ⟨i, hne, hi⟩
        obtain ⟨hil, ei⟩ := List.getElem?_eq_some_iff.1 hi
        refine ⟨List.mem_of_getElem? hi, fun ek => ?_⟩
        rcases Nat.lt_or_gt_of_ne hne with hlt | hgt
        · exact absurd (by rw [ei, ej, ek, h3]) (hp i j hil hjl hlt)
        · exact absurd (by rw [ei, ej, ek, h3]) (hp j i hjl hil hgt)
      · rintro ⟨hx, hne⟩
        obtain ⟨i, hi, ex⟩ := List.getElem_of_mem hx
        refine ⟨i, ?_, by rw [List.getElem?_eq_getElem hi, ex]⟩
        rintro rfl
        exact hne (by rw [← ex, ej, h3])
    · have e2 := congrArg List.length hsub
      rw [List.length_eraseIdx, if_pos hjl] at e2
      simp only [Array.length_toList] at e2
      omega

theorem delV_iff {es es' : Array MapEntry} {q : κ} (hm : ∀ q v, m q = some v ↔ ∃ x ∈ es.toList, x.key = C.ek q ∧ x.val = v) (who : ∀ x, x ∈ es'.toList ↔ x ∈ es.toList ∧ x.key ≠ C.ek q) (q' : κ) (v' : Value) :
    delV m q q' = some v' ↔ ∃ x ∈ es'.toList, x.key = C.ek q' ∧ x.val = v' := by
  by_cases hq : q' = q
  · subst hq
    rw [delV_same]
    refine ⟨fun h => (by cases h), ?_⟩
    rintro ⟨x, hx, ek, _⟩
    exact absurd ek ((who x).1 hx).2
  · rw [delV_other m hq, hm]
    constructor
    · rintro ⟨x, hx, ek, ev⟩
      exact ⟨x, (who x).2 ⟨hx, fun e2 => hq (C.inj (ek.symm.trans e2))⟩, ek, ev⟩
    · rintro ⟨x, hx, ek, ev⟩
      exact ⟨x, ((who x).1 hx).1, ek, ev⟩

theorem del_size {es es' : Array MapEntry} {q : κ} (hm : ∀ q v, m q = some v ↔ ∃ x ∈ es.toList, x.key = C.ek q ∧ x.val = v)
    (h1 : (∃ x ∈ es.toList, x.key = C.ek q) → es'.size + 1 = es.size) (h2 : (∀ x ∈ es.toList, x.key ≠ C.ek q) → es'.size = es.size) (hn : es.size = n) : es'.size = if (m q).isSome then n - 1 else n := by
  cases hq : m q with
  | none =>
    rw [h2 (fun x hx e => by have := (hm q x.val).2 ⟨x, hx, e, rfl⟩; rw [hq] at this; cases this)]
    simp [hn]
  | some v =>
    obtain ⟨x, hx, e, _⟩ := (hm q v).1 hq
    have := h1 ⟨x, hx, e⟩
    simp
    omega

/-- 'delete(m, k)'. -/
theorem MapIs.del {t e ty : TypeId} (h : MapIs C w B m n) (ht : P.underlying t = some (.map k e)) (q : κ) :
    ∃ o, (Builtin.delete_ #[t, k] ty #[.map (some B), C.ek q]).run P w = .ok (.tuple #[]) (setBlock w B o) ∧ MapIs C (setBlock w B o) B (delV m q) (if (m q).isSome then n - 1 else n) := by
  obtain ⟨es, clk, hb, hs, hn, hk, hm⟩ := h
  obtain ⟨es', hrun, hs', hsub, who, z1, z2⟩ := del_es (ty := ty) ht hb hs hk q
  exact ⟨_, hrun, es', clk, heap_setBlock_same hb _, hs', del_size hm z1 z2 hn, fun x hx => hk x ((who x).1 hx).1, fun q' v' => delV_iff hm who q' v'⟩

/-- A range over the map B, its iterator in r: 'left' says which keys are still to come. -/
def Ranging (C : KeyEnc P k κ) (w : World) (B r : Nat) (m : κ → Option Value) (n : Nat) (left : κ → Prop) (cnt : Nat) : Prop :=
  ∃ es clk since seen c0, w.heap[B]? = some (.map es clk) ∧ Stamped es clk ∧ es.size = n ∧ (∀ x ∈ es.toList, ∃ q, x.key = C.ek q) ∧
    (∀ q v, m q = some v ↔ ∃ x ∈ es.toList, x.key = C.ek q ∧ x.val = v) ∧
    w.heap[r]? = some (.mapIter (some B) since seen c0) ∧ (∀ x ∈ es.toList, x.born < since) ∧ since ≤ c0 ∧ since ≤ clk ∧ (leftOf es seen).size = cnt ∧
    ∀ q, left q ↔ ∃ x ∈ es.toList, x.key = C.ek q ∧ seen.contains x.born = false

variable {r cnt : Nat} {left : κ → Prop}

theorem Ranging.is (h : Ranging C w B r m n left cnt) : MapIs C w B m n := by
  obtain ⟨es, clk, _, _, _, hb, hs, hn, hk, hm, _⟩ := h
  exact ⟨es, clk, hb, hs, hn, hk, hm⟩

theorem Ranging.of_cells (h : Ranging C w B r m n left cnt) {w' : World} (e : w'.heap[B]? = w.heap[B]?) (e' : w'.heap[r]? = w.heap[r]?) : Ranging C w' B r m n left cnt := by
  obtain ⟨es, clk, since, seen, c0, hb, hs, hn, hk, hm, hr, z⟩ := h
  exact ⟨es, clk, since, seen, c0, e.trans hb, hs, hn, hk, hm, e'.trans hr, z⟩

theorem Ranging.lt (h : Ranging C w B r m n left cnt) : r < w.heap.size := by
  obtain ⟨_, _, _, _, _, _, _, _, _, _, hr, _⟩ := h
  exact (Array.getElem?_eq_some_iff.1 hr).1

theorem Ranging.ne (h : Ranging C w B r m n left cnt) : r ≠ B := by
  obtain ⟨_, _, _, _, _, hb, _, _, _, _, hr, _⟩ := h
  rintro rfl
  rw [hb] at hr
  cases hr

/-- 'range m'. -/
theorem MapIs.range {t e : TypeId} (h : MapIs C w B m n) (ht : P.underlying t = some (.map k e)) :
    ∃ o, (Instr.range t (.map (some B))).run P w = .ok (.pointer (some ⟨w.heap.size, 0, none⟩)) (w.alloc o) ∧ Ranging C (w.alloc o) B w.heap.size m n (fun q => (m q).isSome = true) n := by
  have hlt := h.lt
  obtain ⟨es, clk, hb, hs, hn, hk, hm⟩ := h
  refine ⟨_, run_range_map w t k e B es clk ht hb, es, clk, clk, #[], clk, ((MapKept.heap_alloc w _).2 B hlt).trans hb, hs, hn, hk, hm, (MapKept.heap_alloc w _).1, ((stamped_iff es clk).1 hs).1, Nat.le_refl _, Nat.le_refl _, by rw [← hn]; simp [leftOf], fun q => ?_⟩
  constructor
  · intro hq
    obtain ⟨v, hv⟩ := Option.isSome_iff_exists.1 hq
    obtain ⟨x, hx, ek, _⟩ := (hm q v).1 hv
    exact ⟨x, hx, ek, by simp⟩
  · rintro ⟨x, hx, ek, _⟩
    rw [(hm q x.val).2 ⟨x, hx, ek, rfl⟩]
    rfl

/-- THE STEP. -/
theorem Ranging.next (h : Ranging C w B r m n left cnt) (ty : TypeId) :
    (cnt = 0 ∧ (∀ q, ¬ left q) ∧ (Instr.next (.pointer (some ⟨r, 0, none⟩)) false ty).run P w = .ok (.tuple #[.bool false]) w) ∨
    ∃ q v w1 o cnt', left q ∧ m q = some v ∧ (w1 = w ∨ w1 = w.drew) ∧ (Instr.next (.pointer (some ⟨r, 0, none⟩)) false ty).run P w = .ok (.tuple #[.bool true, C.ek q, v]) (setBlock w1 r o) ∧
      Ranging C (setBlock w1 r o) B r m n (fun q' => left q' ∧ q' ≠ q) cnt' ∧ cnt' < cnt ∧
      (Instr.entry (.pointer (some ⟨r, 0, none⟩))).run P (setBlock w1 r o) = .ok (.tuple #[C.ek q, v]) (setBlock w1 r o) := by
  have hne := h.ne
  obtain ⟨es, clk, since, seen, c0, hb, hs, hn, hk, hm, hr, hold, hsc, hsk, rfl, hl⟩ := h
  have hst := (stamped_iff es clk).1 hs
  rcases run_next_at (P := P) w ty r B since c0 seen es clk hr hb hold hsc with ⟨h0, hrun⟩ | ⟨e, he, w1, hal, hrun⟩
  · refine Or.inl ⟨h0, fun q hq => ?_, hrun⟩
    obtain ⟨x, hx, _, hsx⟩ := (hl q).1 hq
    rw [all_seen es seen h0 x hx] at hsx
    cases hsx
  · obtain ⟨hem, hes⟩ := mem_left he
    obtain ⟨q, hq⟩ := hk e hem
    have hr1 : w1.heap[r]? = some (.mapIter (some B) since seen c0) := by rcases hal with rfl | rfl <;> exact hr
    have hb1 : w1.heap[B]? = some (.map es clk) := by rcases hal with rfl | rfl <;> exact hb
    have hset := heap_set (o' := .mapIter (some B) since (seen.push e.born) clk) hr1
    have hb' : (setBlock w1 r (.mapIter (some B) since (seen.push e.born) clk)).heap[B]? = some (.map es clk) := (hset.2 B (fun e1 => hne e1.symm)).trans hb1
    have hen := run_entry_at (P := P) _ r B since seen es clk e hset.1 hb' hem hst.2.1
    rw [hq] at hrun hen
    refine Or.inr ⟨q, e.val, w1, _, _, (hl q).2 ⟨e, hem, hq, hes⟩, (hm q e.val).2 ⟨e, hem, hq, rfl⟩, hal, hrun,
      ⟨es, clk, since, seen.push e.born, clk, hb', hs, hn, hk, hm, hset.1, hold, hsk, hsk, rfl, fun q' => ?_⟩, left_shrinks es seen e he, hen⟩
    show (left q' ∧ q' ≠ q) ↔ _
    rw [hl q']
    constructor
    · rintro ⟨⟨x, hx, ek, hsx⟩, hqq⟩
      refine ⟨x, hx, ek, ?_⟩
      rw [contains_push, hsx, Bool.false_or, beq_eq_false_iff_ne]
      intro eb
      obtain rfl := born_inj hst.2.1 hx hem eb
      exact hqq (C.inj (ek.symm.trans hq))
    · rintro ⟨x, hx, ek, hsx⟩
      rw [contains_push, Bool.or_eq_false_iff, beq_eq_false_iff_ne] at hsx
      refine ⟨⟨x, hx, ek, hsx.1⟩, ?_⟩
      rintro rfl
      exact hsx.2 (congrArg MapEntry.born (key_one hst.2.2 hx hem (ek.trans hq.symm)))

/-- 'delete(m, k)' IN THE ROUND. -/
theorem Ranging.del {t e ty : TypeId} (h : Ranging C w B r m n left cnt) (ht : P.underlying t = some (.map k e)) (q : κ) :
    ∃ o cnt', (Builtin.delete_ #[t, k] ty #[.map (some B), C.ek q]).run P w = .ok (.tuple #[]) (setBlock w B o) ∧
      Ranging C (setBlock w B o) B r (delV m q) (if (m q).isSome then n - 1 else n) (fun q' => left q' ∧ q' ≠ q) cnt' ∧ cnt' ≤ cnt := by
  have hne := h.ne
  obtain ⟨es, clk, since, seen, c0, hb, hs, hn, hk, hm, hr, hold, hsc, hsk, rfl, hl⟩ := h
  obtain ⟨es', hrun, hs', hsub, who, z1, z2⟩ := del_es (ty := ty) ht hb hs hk q
  refine ⟨_, _, hrun, ⟨es', clk, since, seen, c0, heap_setBlock_same hb _, hs', del_size hm z1 z2 hn, fun x hx => hk x ((who x).1 hx).1, fun q' v' => delV_iff hm who q' v',
    (heap_setBlock_other hb _ hne).trans hr, fun x hx => hold x ((who x).1 hx).1, hsc, hsk, rfl, fun q' => ?_⟩, ?_⟩
  · show (left q' ∧ q' ≠ q) ↔ _
    rw [hl q']
    constructor
    · rintro ⟨⟨x, hx, ek, hsx⟩, hqq⟩
      exact ⟨x, (who x).2 ⟨hx, fun e2 => hqq (C.inj (ek.symm.trans e2))⟩, ek, hsx⟩
    · rintro ⟨x, hx, ek, hsx⟩
      obtain ⟨hx1, hx2⟩ := (who x).1 hx
      refine ⟨⟨x, hx1, ek, hsx⟩, ?_⟩
      rintro rfl
      exact hx2 ek
  · have e1 : ∀ a : Array MapEntry, (leftOf a seen).size = (a.toList.filter fun e => !seen.contains e.born).length := fun a => by
      unfold leftOf
      rw [← Array.toList_filter, Array.length_toList]
    rw [e1, e1]
    exact (hsub.filter _).length_le

/-! ## At the operations, for the walk -/
section
variable {ops : Array Oper} {rest : List Oper} {o : Oper} {a : Act} {Q : Exit → Act → World → Prop}

/-- 'm[k]'. -/
theorem wl_look (hg : o.guard = none) (mo x : Operand) (t : TypeId) (hop : o.op = Op.lookup t mo x false) (e : TypeId) (ht : P.underlying t = some (.map k e)) {z : Value} (hz : (zeroValue e).run P w = .ok z w)
    (hm : a.eval mo = .map (some B)) (h : MapIs C w B m n) (q : κ) (hx : a.eval x = C.ek q) (hK : wpList P ops Q rest (a.put o.dst ((m q).getD z)) w) : wpList P ops Q (o :: rest) a w := by
  refine wpList_plain hg fun K' hK' => ?_
  have hrun := h.look ht hz q false
  unfold Oper.wp
  simp [execOp, hop, hm, hx, hrun, Result.andThen]
  exact hK' _ _ hK

/-- 'v, ok := m[k]'. -/
theorem wl_look2 (hg : o.guard = none) (mo x : Operand) (t : TypeId) (hop : o.op = Op.lookup t mo x true) (e : TypeId) (ht : P.underlying t = some (.map k e)) {z : Value} (hz : (zeroValue e).run P w = .ok z w)
    (hm : a.eval mo = .map (some B)) (h : MapIs C w B m n) (q : κ) (hx : a.eval x = C.ek q) (hK : wpList P ops Q rest (a.put o.dst (.tuple #[(m q).getD z, .bool (m q).isSome])) w) : wpList P ops Q (o :: rest) a w := by
  refine wpList_plain hg fun K' hK' => ?_
  have hrun := h.look ht hz q true
  unfold Oper.wp
  simp [execOp, hop, hm, hx, hrun, Result.andThen]
  exact hK' _ _ hK

/-- 'm[k] = v'. -/
theorem wl_put (hg : o.guard = none) (mo x v : Operand) (t : TypeId) (hop : o.op = Op.mapUpdate t mo x v) (e : TypeId) (ht : P.underlying t = some (.map k e))
    (hm : a.eval mo = .map (some B)) (h : MapIs C w B m n) (q : κ) (hx : a.eval x = C.ek q)
    (hK : ∀ ob, MapIs C (setBlock w B ob) B (putV m q (a.eval v)) (if (m q).isSome then n else n + 1) → wpList P ops Q rest (a.put o.dst undef) (setBlock w B ob)) : wpList P ops Q (o :: rest) a w := by
  refine wpList_plain hg fun K' hK' => ?_
  obtain ⟨ob, hrun, h'⟩ := h.put ht q (a.eval v)
  unfold Oper.wp
  simp [execOp, hop, hm, hx, hrun, Result.andThen]
  exact hK' _ _ (hK ob h')

/-- 'delete(m, k)'. -/
theorem wl_del (hg : o.guard = none) (mo x : Operand) (t : TypeId) (hop : o.op = Op.call { callee := Callee.builtin Builtin.delete, args := #[mo, x], argTypes := #[t, k] }) (e : TypeId) (ht : P.underlying t = some (.map k e))
    (hm : a.eval mo = .map (some B)) (h : MapIs C w B m n) (q : κ) (hx : a.eval x = C.ek q)
    (hK : ∀ ob, MapIs C (setBlock w B ob) B (delV m q) (if (m q).isSome then n - 1 else n) → wpList P ops Q rest (a.put o.dst (.tuple #[])) (setBlock w B ob)) : wpList P ops Q (o :: rest) a w := by
  refine wpList_plain hg fun K' hK' => ?_
  obtain ⟨ob, hrun, h'⟩ := h.del (ty := o.type) ht q
  unfold Oper.wp
  simp [execOp, hop, resolve, invoke, builtin, hm, hx, hrun, Result.andThen]
  exact hK' _ _ (hK ob h')

/-- 'delete(m, k)' in a round. -/
theorem wl_del_r (hg : o.guard = none) (mo x : Operand) (t : TypeId) (hop : o.op = Op.call { callee := Callee.builtin Builtin.delete, args := #[mo, x], argTypes := #[t, k] }) (e : TypeId) (ht : P.underlying t = some (.map k e))
    (hm : a.eval mo = .map (some B)) (h : Ranging C w B r m n left cnt) (q : κ) (hx : a.eval x = C.ek q)
    (hK : ∀ ob cnt', Ranging C (setBlock w B ob) B r (delV m q) (if (m q).isSome then n - 1 else n) (fun q' => left q' ∧ q' ≠ q) cnt' → cnt' ≤ cnt → wpList P ops Q rest (a.put o.dst (.tuple #[])) (setBlock w B ob)) : wpList P ops Q (o :: rest) a w := by
  refine wpList_plain hg fun K' hK' => ?_
  obtain ⟨ob, cnt', hrun, h', hc⟩ := h.del (ty := o.type) ht q
  unfold Oper.wp
  simp [execOp, hop, resolve, invoke, builtin, hm, hx, hrun, Result.andThen]
  exact hK' _ _ (hK ob cnt' h' hc)

/-- 'range m'. -/
theorem wl_range (hg : o.guard = none) (mo : Operand) (t : TypeId) (hop : o.op = Op.range t mo) (e : TypeId) (ht : P.underlying t = some (.map k e))
    (hm : a.eval mo = .map (some B)) (h : MapIs C w B m n)
    (hK : ∀ ob, Ranging C (w.alloc ob) B w.heap.size m n (fun q => (m q).isSome = true) n → wpList P ops Q rest (a.put o.dst (.pointer (some ⟨w.heap.size, 0, none⟩))) (w.alloc ob)) : wpList P ops Q (o :: rest) a w := by
  refine wpList_plain hg fun K' hK' => ?_
  obtain ⟨ob, hrun, h'⟩ := h.range ht
  unfold Oper.wp
  simp [execOp, hop, hm, hrun, Result.andThen]
  exact hK' _ _ (hK ob h')

/-- THE STEP. -/
theorem wl_next (hg : o.guard = none) (it : Operand) (hop : o.op = Op.next it false) (hit : a.eval it = .pointer (some ⟨r, 0, none⟩)) (h : Ranging C w B r m n left cnt)
    (hDone : cnt = 0 → (∀ q, ¬ left q) → wpList P ops Q rest (a.put o.dst (.tuple #[.bool false])) w)
    (hMore : ∀ q v w1 ob cnt', left q → m q = some v → (w1 = w ∨ w1 = w.drew) → Ranging C (setBlock w1 r ob) B r m n (fun q' => left q' ∧ q' ≠ q) cnt' → cnt' < cnt →
      (Instr.entry (.pointer (some ⟨r, 0, none⟩))).run P (setBlock w1 r ob) = .ok (.tuple #[C.ek q, v]) (setBlock w1 r ob) → wpList P ops Q rest (a.put o.dst (.tuple #[.bool true, C.ek q, v])) (setBlock w1 r ob)) :
    wpList P ops Q (o :: rest) a w := by
  refine wpList_plain hg fun K' hK' => ?_
  unfold Oper.wp
  rcases h.next o.type with ⟨h0, hl, hrun⟩ | ⟨q, v, w1, ob, cnt', hq, hv, hw, hrun, h', hc, hen⟩
  · simp [execOp, hop, hit, hrun, Result.andThen]
    exact hK' _ _ (hDone h0 hl)
  · simp [execOp, hop, hit, hrun, Result.andThen]
    exact hK' _ _ (hMore q v w1 ob cnt' hq hv hw h' hc hen)

end

end Go.MapL
namespace Go.Proofs.Ytcbglojjbgenlaa
open Go.RowKit Go.MapL
open Go.Maps (Keyed)
set_option linter.unusedSimpArgs false

/-- A hash: 32 bytes. -/
abbrev H32 := {l : List UInt8 // l.length = 32}
def hv (q : H32) : Value := .agg (q.1.map bv).toArray

theorem laidOutP : laidOutB Try.prog = true := by kernel_rfl
theorem hashRow : 33 < (Try.prog).types.size := of_decide_eq_true (by kernel_rfl)
theorem hashWide : (match (Try.prog).underlying 33 with | some (.array _ _) | some (.struct _) => true | _ => false) = true := by kernel_rfl
theorem hashKey : (Try.prog).keyType 33 = true := by kernel_rfl
theorem hashAt : (Try.prog).keyTypeAt 2 33 = true := by kernel_rfl
theorem hashLaw : Go.WideMaps.KeyLaw Try.prog 33 := by
  refine deep_law_laid laidOutP (m := 2) (by decide) hashRow hashAt ?_
  rw [Try.underlying33]
theorem hashCells : (Try.prog).cellsOf 33 = 32 := by kernel_rfl
theorem byteCells : (Try.prog).cellsOf 5 = 1 := by kernel_rfl

theorem mapM_all {α β : Type} (f : α → Option β) : ∀ (l : List α), (∀ x ∈ l, ∃ y, f x = some y) → ∃ ys, l.mapM f = some ys
  | [], _ => ⟨[], rfl⟩
  | x :: r, h => by
    obtain ⟨y, hy⟩ := h x (by simp)
    obtain ⟨ys, hys⟩ := mapM_all f r (fun z hz => h z (by simp [hz]))
    exact ⟨y :: ys, by rw [List.mapM_cons, hy, hys]; rfl⟩

theorem keyLits_byte (d : Nat) (x : UInt8) : (Try.prog).keyLits (d + 1) 5 [bv x] = some [.int .u8 ((x.toNat : Nat) : Int)] := by
  have hw : (Lit.int .u8 ((x.toNat : Nat) : Int)).wf = true := by
    have := x.toNat_lt
    simp [Lit.wf, IntKind.min, IntKind.max, IntKind.signed, IntKind.bits]
    first | done | omega | (constructor <;> omega)
  unfold Program.keyLits
  simp only [Try.underlying5, bv]
  simp [hw]

theorem hash_key (q : H32) : ∃ l, keyOf Try.prog 33 (hv q) = some l := by
  have hf : (hv q).formed Try.prog 33 = true := by simp [hv, Value.formed, Try.underlying33, hashCells, q.2]
  have hlits : ∃ ls, (Try.prog).keyLits ((Try.prog).types.size + 1) 33 (hv q).cells.toList = some ls := by
    have hcs : (hv q).cells.toList = q.1.map bv := by simp [hv, Value.cells]
    obtain ⟨ys, hys⟩ := mapM_all (fun i => (Try.prog).keyLits (Try.prog).types.size 5 (((q.1.map bv).drop (i * (Try.prog).cellsOf 5)).take ((Try.prog).cellsOf 5))) (List.range 32) (fun i hi => by
      have hi' : i < q.1.length := by rw [q.2]; exact List.mem_range.1 hi
      have hn : (Try.prog).types.size = ((Try.prog).types.size - 1) + 1 := by have := hashRow; omega
      refine ⟨[.int .u8 ((q.1[i].toNat : Nat) : Int)], ?_⟩
      rw [byteCells, Nat.mul_one, ← List.map_drop, ← List.map_take, List.drop_eq_getElem_cons hi', List.take_succ_cons, List.take_zero, List.map_cons, List.map_nil, hn]
      exact keyLits_byte _ _)
    refine ⟨ys.flatten, ?_⟩
    rw [hcs]
    unfold Program.keyLits
    simp only [Try.underlying33, hashCells, List.length_map, q.2, if_true]
    rw [hys]
    rfl
  obtain ⟨ls, hls⟩ := hlits
  refine ⟨.string (keyBytes ls), ?_⟩
  unfold keyOf
  simp only [Try.underlying33, hashKey, hf, Bool.and_true, if_true]
  rw [hls]
  rfl

theorem bv_inj {x y : UInt8} (h : bv x = bv y) : x = y := by
  unfold bv at h
  injection h with _ h
  exact UInt8.toNat_inj.1 (by exact_mod_cast h)

theorem map_bv_inj : ∀ {a b : List UInt8}, a.map bv = b.map bv → a = b
  | [], [], _ => rfl
  | [], _ :: _, h => by simp at h
  | _ :: _, [], h => by simp at h
  | x :: a, y :: b, h => by
    simp only [List.map_cons, List.cons.injEq] at h
    rw [bv_inj h.1, map_bv_inj h.2]

theorem hv_inj {a b : H32} (h : hv a = hv b) : a = b := by
  unfold hv at h
  injection h with h
  exact Subtype.ext (map_bv_inj (by simpa using congrArg Array.toList h))

/-- the maps' keys. -/
def HC : KeyEnc Try.prog 33 H32 := ⟨hv, hv_inj, hash_key, Keyed.of_law hashLaw⟩

end Go.Proofs.Ytcbglojjbgenlaa
namespace Go.Proofs.Ytcbglojjbgenlaa
open Go.RowKit
set_option linter.unusedSimpArgs false
set_option linter.unusedVariables false
attribute [local go_sem ↓] Go.wp_at_zero Go.wp_at_succ

theorem nil_closed (w : World) : Calls Try.prog 34 #[.pointer none] w fun e w' => e = .returned (.int .i64 1) ∧ w' = w := by
  go_enter Try.func34, Try.ntmps34
  go_wp2
  first | (go_ret; exact ⟨rfl, rfl⟩) | (go_end0; exact ⟨rfl, rfl⟩)

theorem nil_up (w : World) : Calls Try.prog 7 #[.pointer none] w fun e w' => e = .returned (.tuple #[]) ∧ w' = w := by
  go_enter Try.func7, Try.ntmps7
  go_wp2
  first | (go_ret; exact ⟨rfl, rfl⟩) | (go_end0; exact ⟨rfl, rfl⟩)

theorem nil_down (w : World) : Calls Try.prog 19 #[.pointer none] w fun e w' => e = .returned (.bool false) ∧ w' = w := by
  go_enter Try.func19, Try.ntmps19
  go_wp2
  first | (go_ret; exact ⟨rfl, rfl⟩) | (go_end0; exact ⟨rfl, rfl⟩)

theorem nil_choose (va : Value) (w : World) : Calls Try.prog 18 #[.pointer none, va] w fun e w' => e = .returned (.int .i64 1) ∧ w' = w := by
  go_enter Try.func18, Try.ntmps18
  go_wp2
  first | (go_ret; exact ⟨rfl, rfl⟩) | (go_end0; exact ⟨rfl, rfl⟩)

theorem nil_accesses (w : World) : Calls Try.prog 20 #[.pointer none] w fun e w' => e = .returned (.slice none 0 0) ∧ w' = w := by
  go_enter Try.func20, Try.ntmps20
  go_wp2
  first | (go_ret; exact ⟨rfl, rfl⟩) | (go_end0; exact ⟨rfl, rfl⟩)

theorem nil_setReg (cs : Array Value) (w : World) : Calls Try.prog 17 #[.pointer none, .agg cs] w fun e w' => e = .returned (.int .i64 1) ∧ Below w.heap.size w w' := by
  go_enter Try.func17, Try.ntmps17
  go_wp2_with (go_at_call 34; refine (nil_closed _).mono ?_; rintro e w' ⟨rfl, rfl⟩)
  first | (go_ret; exact ⟨rfl, by (repeat (first | exact Below.refl _ _ | refine bg_al ?_ | refine bg_gr ?_ | refine bg_drn ?_ | refine bg_dr ?_ | assumption))⟩) | (go_end0; exact ⟨rfl, by (repeat (first | exact Below.refl _ _ | refine bg_al ?_ | refine bg_gr ?_ | refine bg_drn ?_ | refine bg_dr ?_ | assumption))⟩)

end Go.Proofs.Ytcbglojjbgenlaa
namespace Go.Proofs.Ytcbglojjbgenlaa
open Go.RowKit
set_option linter.unusedSimpArgs false
set_option linter.unusedVariables false
attribute [local go_sem] size_gr cell_gr frozen_gr setCell_gr gr_drew gr_drewN lt_k lt_kc le_k le_kc sub_kc
attribute [local go_sem ↓] Go.wp_at_zero Go.wp_at_succ

theorem nil29 (w : World) (a : Option Addr) (n c : Nat) : (binOp .eql 29 (.slice a n c) (.slice none 0 0)).run Try.prog w = .ok (.bool a.isNone) w := Go.Lib.run_eql_slice_nil w _ _ a n c 0 0 Try.underlying29
theorem nil28 (w : World) (a : Option Addr) (n c : Nat) : (binOp .eql 28 (.slice a n c) (.slice none 0 0)).run Try.prog w = .ok (.bool a.isNone) w := Go.Lib.run_eql_slice_nil w _ _ a n c 0 0 Try.underlying28
theorem nil49 (w : World) (a : Option Addr) (n c : Nat) : (binOp .eql 49 (.slice a n c) (.slice none 0 0)).run Try.prog w = .ok (.bool a.isNone) w := Go.Lib.run_eql_slice_nil w _ _ a n c 0 0 Try.underlying49
attribute [local go_sem] nil29 nil28 nil49

/-- bytes.Clone: the bytes in a row of their own. -/
theorem bclone_any (v : Value) (l : List UInt8) (w : World) (h : SB w v l) (hl : l.length ≤ 1099511627776) :
    Calls Try.prog 33 #[v] w fun e w' => ∃ A c, e = .returned (.slice A l.length c) ∧ OwnB w' w.heap.size (.slice A l.length c) l ∧ Below w.heap.size w w' := by
  obtain ⟨A, c, rfl, hr, h1, h2, h3⟩ := h
  cases A with
  | none =>
    have hl0 : l = [] := by
      cases l with
      | nil => rfl
      | cons a r => obtain ⟨_, _, e, _⟩ := hr 0 (by simp); cases e
    subst hl0
    have hc := h3 rfl
    subst hc
    clear hr h1 h2 h3 hl
    go_enter Try.func33, Try.ntmps33
    go_wp2
    first | (go_ret; exact ⟨_, _, rfl, OwnB.nil _ _, by (repeat (first | exact Below.refl _ _ | refine bg_al ?_ | refine bg_gr ?_ | refine bg_drn ?_ | refine bg_dr ?_ | assumption))⟩) | (go_end0; exact ⟨_, _, rfl, OwnB.nil _ _, by (repeat (first | exact Below.refl _ _ | refine bg_al ?_ | refine bg_gr ?_ | refine bg_drn ?_ | refine bg_dr ?_ | assumption))⟩)
  | some a =>
    have HS := Lib.hid (show SB w (.slice (some a) l.length c) l from ⟨_, _, rfl, hr, h1, h2, h3⟩)
    have hl' := Lib.hid hl
    clear hr h1 h2 h3 hl
    go_enter Try.func33, Try.ntmps33
    go_wp2_with (at_builtin; refine ap_new [] l l l.length rfl rfl rfl rfl rfl rfl (by rfl) (by simp only [World.size_alloc, size_gr, World.size_setCell, World.size_drew]) (by simp) rfl rfl (by rfl) (HS.out.below (by (repeat (first | exact Below.refl _ _ | refine bg_al ?_ | refine bg_gr ?_ | refine bg_drn ?_ | refine bg_dr ?_ | assumption)))) (by have := hl'.out; simp; omega) ?_; intro D A2 c2 ho hc hm)
    first | (go_ret; exact ⟨_, _, rfl, ho _ (by (repeat (first | (refine at_base ?_; simp only [World.size_alloc, size_gr, World.size_setCell, World.size_drew]; done) | (refine at_base ?_; rfl) | refine at_al ?_ | refine at_gr ?_ | refine at_drn ?_ | refine at_dr ?_ | assumption))), by (repeat (first | exact Below.refl _ _ | refine bg_al ?_ | refine bg_gr ?_ | refine bg_drn ?_ | refine bg_dr ?_ | assumption))⟩) | (go_end0; exact ⟨_, _, rfl, ho _ (by (repeat (first | (refine at_base ?_; simp only [World.size_alloc, size_gr, World.size_setCell, World.size_drew]; done) | (refine at_base ?_; rfl) | refine at_al ?_ | refine at_gr ?_ | refine at_drn ?_ | refine at_dr ?_ | assumption))), by (repeat (first | exact Below.refl _ _ | refine bg_al ?_ | refine bg_gr ?_ | refine bg_drn ?_ | refine bg_dr ?_ | assumption))⟩)

theorem choicesT : SlT Try.prog 28 27 (.agg #[.int .i64 0, .int .i64 0, .int .i64 0]) 3 24 := ⟨Try.underlying28, by kernel_rfl, by rfl, by decide⟩
theorem accessesT : SlT Try.prog 49 95 (.agg #[.int .i64 0, .int .i64 0, .bool false]) 3 24 := ⟨Try.underlying49, by kernel_rfl, by rfl, by decide⟩
theorem changesT : SlT Try.prog 79 82 (.agg #[.map none, .slice none 0 0]) 2 32 := ⟨Try.underlying79, by kernel_rfl, by rfl, by decide⟩
theorem rowsT : SlT Try.prog 60 29 (.slice none 0 0) 1 24 := ⟨Try.underlying60, by kernel_rfl, by rfl, by decide⟩
/-- slices.Clone of choices -/
theorem cclone_any (v : Value) (n : Nat) (cs : List Value) (w : World) (h : Src w 3 v n cs) (h1 : ∀ u ∈ cs, u.oneCell' = true) (hn : n ≤ 1099511627776) (hz : ∀ c, v = .slice none n c → n = 0) :
    Calls Try.prog 31 #[v] w fun e w' => ∃ A c, e = .returned (.slice A n c) ∧ w'.ownsRow w.heap.size 27 3 (.slice A n c) n cs ∧ Below w.heap.size w w' := by
  obtain ⟨A, c, rfl, hl, hr⟩ := h
  cases A with
  | none =>
    obtain rfl := hz _ rfl
    have hl0 : cs = [] := List.eq_nil_of_length_eq_zero (by simpa using hl)
    subst hl0
    clear hl hr h1 hn hz
    go_enter Try.func31, Try.ntmps31
    go_wp2
    first | (go_ret; exact ⟨_, _, rfl, own_nil _ _ _ _, by (repeat (first | exact Below.refl _ _ | refine bg_al ?_ | refine bg_gr ?_ | refine bg_drn ?_ | refine bg_dr ?_ | assumption))⟩) | (go_end0; exact ⟨_, _, rfl, own_nil _ _ _ _, by (repeat (first | exact Below.refl _ _ | refine bg_al ?_ | refine bg_gr ?_ | refine bg_drn ?_ | refine bg_dr ?_ | assumption))⟩)
  | some a =>
    have HS := Lib.hid (show Src w 3 (.slice (some a) n c) n cs from ⟨_, _, rfl, hl, hr⟩)
    have HN := Lib.hid hn
    have H1 := Lib.hid h1
    clear hr hl hn hz h1
    go_enter Try.func31, Try.ntmps31
    go_wp2_with (at_builtin; refine wpList_ap (base := w.heap.size) (n := 0) (xs := []) choicesT rfl rfl (by rfl) (own_lit w #[] 27 (n := 0) (Nat.le_refl _) (by simp [maxLen]) (by rfl)) (by rfl) (HS.out.below (by (repeat (first | exact Below.refl _ _ | refine bg_al ?_ | refine bg_gr ?_ | refine bg_drn ?_ | refine bg_dr ?_ | assumption)))) H1.out (by have := HN.out; simp only [maxLen]; omega) (by have := HN.out; omega) (by simp) ?_; intro v1 w1 hap; simp only [Nat.zero_add, List.nil_append] at hap)
    have HAP := Lib.hid hap
    obtain ⟨A1, c1, rfl, -⟩ := Src.own HAP.out.1
    first | go_ret | go_end0
    exact ⟨_, _, rfl, HAP.out.1, ap_below (bg_al (Below.refl _ _)) HAP.out (by simp) (fun k hk => by simp [Value.ownBlock] at hk; omega)⟩
theorem aclone_any (v : Value) (n : Nat) (cs : List Value) (w : World) (h : Src w 3 v n cs) (h1 : ∀ u ∈ cs, u.oneCell' = true) (hn : n ≤ 1099511627776) (hz : ∀ c, v = .slice none n c → n = 0) :
    Calls Try.prog 36 #[v] w fun e w' => ∃ A c, e = .returned (.slice A n c) ∧ w'.ownsRow w.heap.size 95 3 (.slice A n c) n cs ∧ Below w.heap.size w w' := by
  obtain ⟨A, c, rfl, hl, hr⟩ := h
  cases A with
  | none =>
    obtain rfl := hz _ rfl
    have hl0 : cs = [] := List.eq_nil_of_length_eq_zero (by simpa using hl)
    subst hl0
    clear hl hr h1 hn hz
    go_enter Try.func36, Try.ntmps36
    go_wp2
    first | (go_ret; exact ⟨_, _, rfl, own_nil _ _ _ _, by (repeat (first | exact Below.refl _ _ | refine bg_al ?_ | refine bg_gr ?_ | refine bg_drn ?_ | refine bg_dr ?_ | assumption))⟩) | (go_end0; exact ⟨_, _, rfl, own_nil _ _ _ _, by (repeat (first | exact Below.refl _ _ | refine bg_al ?_ | refine bg_gr ?_ | refine bg_drn ?_ | refine bg_dr ?_ | assumption))⟩)
  | some a =>
    have HS := Lib.hid (show Src w 3 (.slice (some a) n c) n cs from ⟨_, _, rfl, hl, hr⟩)
    have HN := Lib.hid hn
    have H1 := Lib.hid h1
    clear hr hl hn hz h1
    go_enter Try.func36, Try.ntmps36
    go_wp2_with (at_builtin; refine wpList_ap (base := w.heap.size) (n := 0) (xs := []) accessesT rfl rfl (by rfl) (own_lit w #[] 95 (n := 0) (Nat.le_refl _) (by simp [maxLen]) (by rfl)) (by rfl) (HS.out.below (by (repeat (first | exact Below.refl _ _ | refine bg_al ?_ | refine bg_gr ?_ | refine bg_drn ?_ | refine bg_dr ?_ | assumption)))) H1.out (by have := HN.out; simp only [maxLen]; omega) (by have := HN.out; omega) (by simp) ?_; intro v1 w1 hap; simp only [Nat.zero_add, List.nil_append] at hap)
    have HAP := Lib.hid hap
    obtain ⟨A1, c1, rfl, -⟩ := Src.own HAP.out.1
    first | go_ret | go_end0
    exact ⟨_, _, rfl, HAP.out.1, ap_below (bg_al (Below.refl _ _)) HAP.out (by simp) (fun k hk => by simp [Value.ownBlock] at hk; omega)⟩

theorem bytes_beq (la lb : List UInt8) : ((⟨la.toArray⟩ : ByteArray) == ⟨lb.toArray⟩) = (la == lb) := by
  rw [Bool.eq_iff_iff, Go.MapKept.bytes_beq]
  constructor
  · intro e
    injection e with e
    simpa using congrArg Array.toList e
  · intro e
    rw [beq_iff_eq] at e
    rw [e]
theorem beq_any (va vb : Value) (la lb : List UInt8) (w : World) (ha : SB w va la) (hb : SB w vb lb) :
    Calls Try.prog 57 #[va, vb] w fun e w' => e = .returned (.bool (la == lb)) ∧ ∃ n, w' = w.drewN n := by
  have h1 := convS ha
  have h2 := convS hb
  clear ha hb
  have hbb := bytes_beq la lb
  go_enter Try.func57, Try.ntmps57
  go_wp2
  first | go_ret | go_end0
  exact ⟨rfl, 0, rfl⟩
end Go.Proofs.Ytcbglojjbgenlaa
namespace Go.Proofs.Ytcbglojjbgenlaa
open Go.RowKit
set_option linter.unusedSimpArgs false
set_option linter.unusedVariables false
attribute [local go_sem] size_gr cell_gr frozen_gr setCell_gr gr_drew gr_drewN lt_k lt_kc le_k le_kc sub_kc nil29 nil28 nil49
attribute [local go_sem ↓] Go.wp_at_zero Go.wp_at_succ

/-- The address A leads to the cells cs. -/
def RdC (w : World) (A : Option Addr) (cs : List Value) : Prop :=
  ∀ j (h : j < cs.length), ∃ b off, A = some ⟨b, off, none⟩ ∧ w.cell? ⟨b, off + j, none⟩ = some cs[j]
/-- A slice of n elements of k cells each. -/
def SC (w : World) (k : Nat) (v : Value) (n : Nat) (cs : List Value) : Prop :=
  ∃ A c, v = .slice A n c ∧ RdC w A cs ∧ cs.length = n * k ∧ n ≤ c ∧ c ≤ maxLen ∧ (A = none → c = 0)
theorem RdC.below {w w' : World} {A : Option Addr} {l : List Value} (h : RdC w A l) (hb : Below w.heap.size w w') : RdC w' A l := fun k hl => by
  obtain ⟨b, off, e, hc⟩ := h k hl
  exact ⟨b, off, e, by rw [hb.cell (World.block_lt_of_cell? w _ hc)]; exact hc⟩
theorem SC.below {w w' : World} {k n : Nat} {v : Value} {cs : List Value} (h : SC w k v n cs) (hb : Below w.heap.size w w') : SC w' k v n cs := by
  obtain ⟨A, c, e, hr, h1⟩ := h
  exact ⟨A, c, e, hr.below hb, h1⟩
theorem SC.src {w : World} {k n : Nat} {v : Value} {cs : List Value} (h : SC w k v n cs) : Src w k v n cs := by
  obtain ⟨A, c, rfl, hr, hl, _⟩ := h
  refine ⟨A, c, rfl, hl, fun j u hj => ?_⟩
  obtain ⟨hjl, e⟩ := List.getElem?_eq_some_iff.1 hj
  obtain ⟨b, off, e2, hc⟩ := hr j hjl
  exact ⟨_, e2, by rw [addr_add, hc, e]⟩
theorem SC.nz {w : World} {k n : Nat} {v : Value} {cs : List Value} (h : SC w k v n cs) : ∀ c, v = .slice none n c → n = 0 := by
  obtain ⟨A, c, rfl, hr, hl, h1, h2, h3⟩ := h
  intro c' e
  injection e with e1 e2 e3
  have := h3 e1
  omega
theorem SC.own {w : World} {base : Nat} {e : TypeId} {k n : Nat} {v : Value} {cs : List Value} (h : w.ownsRow base e k v n cs) : SC w k v n cs := by
  have h' := h
  rcases h.2 with ⟨rfl, rfl⟩ | ⟨g, cap, cur, rfl, hb, hg, hn, hm, hc, ht⟩
  · have hx : cs = [] := List.eq_nil_of_length_eq_zero (by simpa using h.1)
    subst hx
    exact ⟨none, 0, rfl, fun j hj => by simp at hj, by simp, by simp, by simp [maxLen], fun _ => rfl⟩
  · refine ⟨some ⟨g, 0, none⟩, cap, rfl, fun j hj => ⟨g, 0, rfl, ?_⟩, h.1, hn, hm, fun h => by cases h⟩
    have := h'.cells (g := g) rfl j _ (List.getElem?_eq_getElem hj)
    rw [addr_add] at this
    exact this
theorem SC.nil (w : World) (k : Nat) : SC w k (.slice none 0 0) 0 [] := ⟨none, 0, rfl, fun j hj => by simp at hj, by simp, by simp, by simp [maxLen], fun _ => rfl⟩

/-- A choice: kind, N, M. -/
abbrev Ch := Int × Int × Int
def chC (c : Ch) : List Value := [.int .i64 c.1, .int .i64 c.2.1, .int .i64 c.2.2]
theorem chC_len (l : List Ch) : (l.flatMap chC).length = l.length * 3 := by
  induction l with
  | nil => rfl
  | cons a r ih => simp [List.flatMap_cons, chC, ih]; omega
theorem chC_at : ∀ (l : List Ch) (k : Nat) (h : k < l.length) (j : Nat) (hj : j < 3), (l.flatMap chC)[k * 3 + j]? = (chC l[k])[j]?
  | a :: r, 0, _, j, hj => by
    simp only [List.flatMap_cons, Nat.zero_mul, Nat.zero_add, List.getElem_cons_zero]
    rw [List.getElem?_append_left (by simpa [chC] using hj)]
  | a :: r, k + 1, h, j, hj => by
    simp only [List.flatMap_cons, List.getElem_cons_succ]
    rw [List.getElem?_append_right (by simp [chC]; omega), ← chC_at r k (by simpa using h) j hj]
    congr 1
    simp [chC]; omega
theorem chC_one (l : List Ch) : ∀ u ∈ l.flatMap chC, u.oneCell' = true := by
  intro u hu
  obtain ⟨c, _, h⟩ := List.mem_flatMap.1 hu
  simp [chC] at h
  rcases h with rfl | rfl | rfl <;> rfl
def chOk (c : Ch) : Bool := decide (0 ≤ c.1 ∧ c.1 < 8 ∧ 0 ≤ c.2.1 ∧ 0 ≤ c.2.2)
def mayB (cs : List Ch) : Bool := decide (cs.length ≤ 4096) && cs.all chOk
theorem SC.ch {w : World} {A : Option Addr} {cs : List Ch} (h : RdC w A (cs.flatMap chC)) (k : Nat) (hk : k < cs.length) :
    ∃ b off, A = some ⟨b, off, none⟩ ∧ w.cell? ⟨b, off + k * 3, none⟩ = some (.int .i64 cs[k].1) ∧ w.cell? ⟨b, off + k * 3 + 1, none⟩ = some (.int .i64 cs[k].2.1) ∧ w.cell? ⟨b, off + k * 3 + 2, none⟩ = some (.int .i64 cs[k].2.2) := by
  have hl := chC_len cs
  have e : ∀ j (hj : j < 3), ∃ b off, A = some ⟨b, off, none⟩ ∧ w.cell? ⟨b, off + (k * 3 + j), none⟩ = (chC cs[k])[j]? := fun j hj => by
    obtain ⟨b, off, e, hc⟩ := h (k * 3 + j) (by omega)
    refine ⟨b, off, e, ?_⟩
    rw [hc, ← chC_at cs k hk j hj, List.getElem?_eq_getElem]
  obtain ⟨b, off, e0, h0⟩ := e 0 (by omega)
  obtain ⟨b1, off1, e1, h1⟩ := e 1 (by omega)
  obtain ⟨b2, off2, e2, h2⟩ := e 2 (by omega)
  subst e0
  injection e1 with e1; injection e1 with x1 x2
  injection e2 with e2; injection e2 with y1 y2
  subst x1 x2 y1 y2
  exact ⟨b, off, rfl, h0, h1, h2⟩

theorem mayBe_any (v : Value) (cs : List Ch) (w : World) (h : SC w 3 v cs.length (cs.flatMap chC)) (hn : cs.length ≤ 1099511627776) :
    Calls Try.prog 30 #[v] w fun e w' => e = .returned (.bool (mayB cs)) ∧ Below w.heap.size w w' := by
  have HM := Lib.hid (show mayB cs = (decide (cs.length ≤ 4096) && cs.all chOk) from rfl)
  obtain ⟨A, c, rfl, hr, hl, h1, h2, h3⟩ := h
  have HN := Lib.hid hn
  have HR := Lib.hid hr
  by_cases hbig : 4096 < cs.length
  · have hb : (4096 : Int) < (cs.length : Int) := by omega
    have hfin : mayB cs = false := by rw [HM.out]; simp; omega
    have HF := Lib.hid hfin
    clear hr hl h1 h2 h3 hn hfin hbig
    go_enter Try.func30, Try.ntmps30
    go_wp2
    first | go_ret | go_end0
    exact ⟨by rw [HF.out]; rfl, by (repeat (first | exact Below.refl _ _ | refine bg_al ?_ | refine bg_gr ?_ | refine bg_drn ?_ | refine bg_dr ?_ | assumption))⟩
  · have hb : ¬ (4096 : Int) < (cs.length : Int) := by omega
    have HBIG := Lib.hid hbig
    have hc : (cs.length : Int) ≤ 4096 := by omega
    clear hr hl h1 h2 h3 hn hbig
    go_enter Try.func30, Try.ntmps30
    go_wp2
    go_loopw [10] (fun i wr => ∃ k : Nat, k ≤ cs.length ∧ (cs.take k).all chOk = true ∧ i = .int .i64 k ∧ Below w.heap.size w wr) (fun i _ => cs.length - (intOf i).toNat)
    case atStart => exact ⟨0, by omega, by simp, rfl, by (repeat (first | exact Below.refl _ _ | refine bg_al ?_ | refine bg_gr ?_ | refine bg_drn ?_ | refine bg_dr ?_ | assumption))⟩
    case round =>
      obtain ⟨k, hk, hall, rfl, hB⟩ := hrel
      have HALL := Lib.hid hall
      have HB := Lib.hid hB
      by_cases h1 : k < cs.length
      · obtain ⟨b, off, rfl, c0, c1, c2⟩ := SC.ch (HR.out.below hB) k h1
        have hsnoc : (cs.take (k + 1)).all chOk = (chOk cs[k]) := by rw [List.take_succ_eq_append_getElem h1, List.all_append, hall]; simp
        have HSN := Lib.hid hsnoc
        have hlt : b < wr.heap.size := World.block_lt_of_cell? wr _ c0
        have hbad : chOk cs[k] = false → mayB cs = false := fun hc => by
          rw [HM.out, Bool.and_eq_false_iff]
          right
          rw [Bool.eq_false_iff]
          intro h
          have := List.all_eq_true.1 h cs[k] (List.getElem_mem _)
          rw [hc] at this
          cases this
        have HBAD := Lib.hid hbad
        have hchk : chOk cs[k] = decide (0 ≤ cs[k].1 ∧ cs[k].1 < 8 ∧ 0 ≤ cs[k].2.1 ∧ 0 ≤ cs[k].2.2) := rfl
        have HCHK := Lib.hid hchk
        clear hall hB hsnoc hbad hchk
        generalize cs[k].1 = x0 at *
        generalize cs[k].2.1 = x1 at *
        generalize cs[k].2.2 = x2 at *
        have h1' : (k : Int) < (cs.length : Int) := by omega
        by_cases t0 : x0 < 0
        · have HF := Lib.hid (HBAD.out (by rw [HCHK.out]; simp; omega))
          go_wp2
          go_ret
          exact ⟨by rw [HF.out]; rfl, (by have hB := HB.out; (repeat (first | exact Below.refl _ _ | refine bg_al ?_ | refine bg_gr ?_ | refine bg_drn ?_ | refine bg_dr ?_ | assumption)))⟩
        · by_cases t1 : 8 ≤ x0
          · have HF := Lib.hid (HBAD.out (by rw [HCHK.out]; simp; omega))
            go_wp2
            go_ret
            exact ⟨by rw [HF.out]; rfl, (by have hB := HB.out; (repeat (first | exact Below.refl _ _ | refine bg_al ?_ | refine bg_gr ?_ | refine bg_drn ?_ | refine bg_dr ?_ | assumption)))⟩
          · by_cases t2 : x1 < 0
            · have HF := Lib.hid (HBAD.out (by rw [HCHK.out]; simp; omega))
              go_wp2
              go_ret
              exact ⟨by rw [HF.out]; rfl, (by have hB := HB.out; (repeat (first | exact Below.refl _ _ | refine bg_al ?_ | refine bg_gr ?_ | refine bg_drn ?_ | refine bg_dr ?_ | assumption)))⟩
            · by_cases t3 : x2 < 0
              · have HF := Lib.hid (HBAD.out (by rw [HCHK.out]; simp; omega))
                go_wp2
                go_ret
                exact ⟨by rw [HF.out]; rfl, (by have hB := HB.out; (repeat (first | exact Below.refl _ _ | refine bg_al ?_ | refine bg_gr ?_ | refine bg_drn ?_ | refine bg_dr ?_ | assumption)))⟩
              · have HG := Lib.hid (HSN.out.trans (HCHK.out.trans (decide_eq_true ⟨Int.not_lt.1 t0, Int.not_le.1 t1, Int.not_lt.1 t2, Int.not_lt.1 t3⟩)))
                go_wp2
                refine ⟨⟨k + 1, by omega, HG.out, by go_num, (by have hB := HB.out; (repeat (first | exact Below.refl _ _ | refine bg_al ?_ | refine bg_gr ?_ | refine bg_drn ?_ | refine bg_dr ?_ | assumption)))⟩, by simp [intOf]; omega⟩
      · have hkl : k = cs.length := by omega
        have h1' : ¬ (k : Int) < (cs.length : Int) := by omega
        have HF := Lib.hid (show mayB cs = true by
          rw [HM.out, Bool.and_eq_true]
          refine ⟨by have := HBIG.out; simp; omega, ?_⟩
          rw [← HALL.out, hkl, List.take_length])
        clear hall hkl hB
        go_wp2
        go_ret
        exact ⟨by rw [HF.out]; rfl, HB.out⟩
end Go.Proofs.Ytcbglojjbgenlaa
namespace Go.Proofs.Ytcbglojjbgenlaa
open Go.RowKit Go.MapL
set_option linter.unusedSimpArgs false
set_option linter.unusedVariables false
attribute [local go_sem] size_gr cell_gr frozen_gr setCell_gr gr_drew gr_drewN lt_k lt_kc le_k le_kc sub_kc nil29 nil28 nil49
attribute [local go_sem ↓] Go.wp_at_zero Go.wp_at_succ

/-- What stands in a device's struct. -/
structure Fd where
  slots : Int
  room : Int
  bm : Value
  log : Value
  cnt : Int
  tag : H32
  down : Bool
  cho : Value
  acc : Value
  vers : Value
  past : Value
  nb : Value
  nl : Value
def devC (f : Fd) : List Value := [.int .i64 f.slots, .int .i64 f.room, f.bm, f.log, .int .i64 f.cnt] ++ (f.tag.1.map bv ++ [.bool f.down, f.cho, f.acc, f.vers, f.past, f.nb, f.nl])
def DevAt (w : World) (D : Nat) (f : Fd) : Prop := w.heap[D]? = some (.cells (devC f).toArray 84 (0, 0))
theorem devC_len (f : Fd) : (devC f).length = 44 := by simp [devC, f.tag.2]
def zero32 : H32 := ⟨List.replicate 32 0, by simp⟩

abbrev Bs := List UInt8
/-- block k is a row of bytes -/
def isBytes (w : World) (k : Nat) : Prop := ∃ cs fr, w.heap[k]? = some (.cells cs 5 fr)
def vBlock : Value → Option Nat | .slice (some a) _ _ => some a.block | _ => none
/-- bytes in a row of bytes of F -/
def DB (w : World) (F : Nat → Prop) (v : Value) (l : Bs) : Prop := SB w v l ∧ ∀ k, vBlock v = some k → F k ∧ isBytes w k
def OptR {α β : Type} (R : α → β → Prop) : Option α → Option β → Prop
  | none, none => True
  | some a, some b => R a b
  | _, _ => False
def MapB (w : World) (F : Nat → Prop) (B : Nat) (bl : H32 → Option Bs) (n : Nat) : Prop := ∃ mv, MapIs HC w B mv n ∧ ∀ q, OptR (DB w F) (mv q) (bl q)
def OldV (w : World) (F : Nat → Prop) (v : Value) (x : Option Bs) : Prop := ∃ s, v = .agg #[s, .bool x.isSome] ∧ DB w F s (x.getD [])
def MapO (w : World) (F : Nat → Prop) (B : Nat) (o : H32 → Option (Option Bs)) (n : Nat) : Prop := ∃ mv, MapIs HC w B mv n ∧ ∀ q, OptR (OldV w F) (mv q) (o q)
/-- a row of slices of bytes -/
def VerV (w : World) (F : Nat → Prop) (v : Value) (ls : List Bs) : Prop :=
  ∃ vals, w.ownsRow 0 29 1 v ls.length vals ∧ (∀ i (h : i < ls.length) (h' : i < vals.length), DB w F vals[i] ls[i]) ∧ ∀ k, v.ownBlock = some k → F k
def MapV (w : World) (F : Nat → Prop) (V : Nat) (vs : H32 → List Bs) : Prop :=
  ∃ mv n, MapIs HC w V mv n ∧ (∀ q, (mv q = none ∧ vs q = []) ∨ ∃ v, mv q = some v ∧ VerV w F v (vs q)) ∧
    ∀ q q' v v' k, q ≠ q' → mv q = some v → mv q' = some v' → v.ownBlock = some k → v'.ownBlock ≠ some k
abbrev Ac := Int × Int × Bool
def acC (c : Ac) : List Value := [.int .i64 c.1, .int .i64 c.2.1, .bool c.2.2]
def AccAt (w : World) (F : Nat → Prop) (v : Value) (l : List Ac) : Prop := w.ownsRow 0 95 3 v l.length (l.flatMap acC) ∧ ∀ k, v.ownBlock = some k → F k
/-- a row of choices -/
def ChoAt (w : World) (F : Nat → Prop) (v : Value) (l : List Ch) : Prop := SC w 3 v l.length (l.flatMap chC) ∧ ∀ k, vBlock v = some k → F k ∧ ∃ cs fr, w.heap[k]? = some (.cells cs 27 fr)
/-- a change: what stood there -/
structure Pc where
  olds : H32 → Option (Option Bs)
  n : Nat
  log : Bs
def PcAt (w : World) (F : Nat → Prop) (X : Nat → Prop) (a b : Value) (p : Pc) : Prop := ∃ N, a = .map (some N) ∧ F N ∧ ¬ X N ∧ MapO w F N p.olds p.n ∧ DB w F b p.log
def PastAt (w : World) (F : Nat → Prop) (X : Nat → Prop) (v : Value) (l : List Pc) : Prop :=
  ∃ vals : List (Value × Value), vals.length = l.length ∧ w.ownsRow 0 82 2 v l.length (vals.flatMap fun x => [x.1, x.2]) ∧ (∀ i (h : i < l.length) (h' : i < vals.length), PcAt w F X vals[i].1 vals[i].2 l[i]) ∧ ∀ k, v.ownBlock = some k → F k
/-- What a device is. -/
structure Dv where
  slots : Int
  room : Int
  cnt : Int
  tag : H32
  blobs : H32 → Option Bs
  n : Nat
  log : Bs
  down : Bool
  cho : List Ch
  acc : List Ac
  vers : H32 → List Bs
  past : List Pc
/-- Where it lies. -/
structure Mm where
  B : Nat
  V : Nat
  lv : Value
  cv : Value
  av : Value
  pv : Value
  nb : Value
  nl : Value
def fdOf (d : Dv) (m : Mm) : Fd := ⟨d.slots, d.room, .map (some m.B), m.lv, d.cnt, d.tag, d.down, m.cv, m.av, .map (some m.V), m.pv, m.nb, m.nl⟩
structure Core (w : World) (D : Nat) (F : Nat → Prop) (X : Nat → Prop) (d : Dv) (m : Mm) : Prop where
  dev : DevAt w D (fdOf d m)
  fD : F D
  fB : F m.B
  fV : F m.V
  xB : X m.B
  xV : X m.V
  bv : m.B ≠ m.V
  blobs : MapB w F m.B d.blobs d.n
  vers : MapV w F m.V d.vers
  log : DB w F m.lv d.log
  cho : ChoAt w F m.cv d.cho
  acc : AccAt w F m.av d.acc
  past : PastAt w F X m.pv d.past
def Inv (w : World) (D : Nat) (F : Nat → Prop) (d : Dv) : Prop := ∃ m, Core w D F (fun k => k = m.B ∨ k = m.V) d m
def dv0 (s r : Int) (cs : List Ch) : Dv := ⟨s, r, 0, zero32, fun _ => none, 0, [], false, cs, [], fun _ => [], []⟩

theorem mkmap (t : TypeId) (w : World) : (Instr.makeMap t none).run Try.prog w = .ok (.map (some w.heap.size)) (w.alloc (.map #[] 0)) := rfl
attribute [local go_sem] mkmap

theorem new_slots (s r : Int) (v : Value) (w : World) (h : s < 1 ∨ 4096 < s ∨ r < 0 ∨ 1048576 < r) :
    Calls Try.prog 6 #[.int .i64 s, .int .i64 r, v] w fun e w' => e = .returned (.tuple #[.pointer none, .int .i64 80]) ∧ w' = w := by
  by_cases t0 : s < 1
  · clear h
    go_enter Try.func6, Try.ntmps6
    go_wp2
    go_ret2
    exact ⟨rfl, rfl⟩
  · by_cases t1 : 4096 < s
    · clear h
      go_enter Try.func6, Try.ntmps6
      go_wp2
      go_ret2
      exact ⟨rfl, rfl⟩
    · by_cases t2 : r < 0
      · clear h
        go_enter Try.func6, Try.ntmps6
        go_wp2
        go_ret2
        exact ⟨rfl, rfl⟩
      · have t3 : 1048576 < r := by omega
        clear h
        go_enter Try.func6, Try.ntmps6
        go_wp2
        go_ret2
        exact ⟨rfl, rfl⟩

theorem new_choices (s r : Int) (v : Value) (cs : List Ch) (w : World) (h : 1 ≤ s ∧ s ≤ 4096 ∧ 0 ≤ r ∧ r ≤ 1048576) (hc : SC w 3 v cs.length (cs.flatMap chC)) (hn : cs.length ≤ 1099511627776) (hb : mayB cs = false) :
    Calls Try.prog 6 #[.int .i64 s, .int .i64 r, v] w fun e w' => e = .returned (.tuple #[.pointer none, .int .i64 2]) ∧ Below w.heap.size w w' := by
  have t0 : ¬ s < 1 := by omega
  have t1 : ¬ 4096 < s := by omega
  have t2 : ¬ r < 0 := by omega
  have t3 : ¬ 1048576 < r := by omega
  have HC := Lib.hid (mayBe_any v cs w hc hn)
  rw [hb] at HC
  clear h hc hn hb
  go_enter Try.func6, Try.ntmps6
  go_wp2_with (go_at_call 30; refine HC.out.mono ?_; rintro en w1 ⟨rfl, hb1⟩; obtain ⟨D1, rfl⟩ := gr_of_below hb1; clear hb1)
  go_ret2
  exact ⟨rfl, by (repeat (first | exact Below.refl _ _ | refine bg_al ?_ | refine bg_gr ?_ | refine bg_drn ?_ | refine bg_dr ?_ | assumption))⟩

theorem own_vBlock {w : World} {base n : Nat} {e : TypeId} {size : Nat} {v : Value} {xs : List Value} (h : w.ownsRow base e size v n xs) : ∀ k, vBlock v = some k → base ≤ k ∧ k < w.heap.size ∧ ∃ cs fr, w.heap[k]? = some (.cells cs e fr) := by
  rcases h.2 with ⟨rfl, _⟩ | ⟨g, cap, cur, rfl, hb, hg, _⟩
  · intro k hk; simp [vBlock] at hk
  · intro k hk
    simp [vBlock] at hk
    subst hk
    exact ⟨hb, (Array.getElem?_eq_some_iff.1 hg).1, _, _, hg⟩
theorem ownsRow_mono0 {w : World} {base n : Nat} {e : TypeId} {size : Nat} {v : Value} {xs : List Value} (h : w.ownsRow base e size v n xs) : w.ownsRow 0 e size v n xs := own_mono h (Nat.zero_le _)
theorem DB.nil (w : World) (F : Nat → Prop) : DB w F (.slice none 0 0) [] := ⟨SB.nil w, fun k hk => by simp [vBlock] at hk⟩

theorem inv_new (w W1 : World) (D2 : Dl) (s r : Int) (cs : List Ch) (A2 : Option Addr) (c2 : Nat) (h1 : w.heap.size ≤ W1.heap.size)
    (hO : ((W1.alloc (.map #[] 0)).gr D2).ownsRow (W1.alloc (.map #[] 0)).heap.size 27 3 (.slice A2 cs.length c2) cs.length (cs.flatMap chC)) (f : Fd)
    (hf : f = ⟨s, r, .map (some W1.heap.size), .slice none 0 0, 0, zero32, false, .slice A2 cs.length c2, .slice none 0 0, .map (some (W1.heap.size + 1 + D2.k)), .slice none 0 0, .map none, .slice none 0 0⟩) (W : World)
    (hW : W = (((W1.alloc (.map #[] 0)).gr D2).alloc (.map #[] 0)).alloc (.cells (devC f).toArray 84)) :
    Inv W (W1.heap.size + 1 + D2.k + 1) (fun k => w.heap.size ≤ k ∧ k < W.heap.size) (dv0 s r cs) := by
  subst hf
  have e1 : (W1.alloc (.map #[] 0)).heap.size = W1.heap.size + 1 := by simp
  have e2 : ((W1.alloc (.map #[] 0)).gr D2).heap.size = W1.heap.size + 1 + D2.k := by rw [size_gr, e1]
  have e3 : (((W1.alloc (.map #[] 0)).gr D2).alloc (.map #[] 0)).heap.size = W1.heap.size + 1 + D2.k + 1 := by simp [size_gr]
  have e4 : W.heap.size = W1.heap.size + 1 + D2.k + 1 + 1 := by rw [hW]; simp [size_gr]
  have b0 : ∀ k, k < (W1.alloc (.map #[] 0)).heap.size → W.heap[k]? = (W1.alloc (.map #[] 0)).heap[k]? := fun k hk => by
    rw [hW]
    exact (show Below (W1.alloc (.map #[] 0)).heap.size (W1.alloc (.map #[] 0)) _ by (repeat (first | exact Below.refl _ _ | refine bg_al ?_ | refine bg_gr ?_ | refine bg_drn ?_ | refine bg_dr ?_ | assumption))).block k hk
  have b1 : Below ((W1.alloc (.map #[] 0)).gr D2).heap.size ((W1.alloc (.map #[] 0)).gr D2) W := by rw [hW]; (repeat (first | exact Below.refl _ _ | refine bg_al ?_ | refine bg_gr ?_ | refine bg_drn ?_ | refine bg_dr ?_ | assumption))
  have b2 : ∀ k, k < (((W1.alloc (.map #[] 0)).gr D2).alloc (.map #[] 0)).heap.size → W.heap[k]? = (((W1.alloc (.map #[] 0)).gr D2).alloc (.map #[] 0)).heap[k]? := fun k hk => by
    rw [hW]
    exact Below.heap_alloc _ _ k hk
  have m1 := mapIs_made HC W1
  have m2 := mapIs_made HC ((W1.alloc (.map #[] 0)).gr D2)
  rw [e2] at m2
  have hO' := own_below hO b1
  refine ⟨⟨W1.heap.size, W1.heap.size + 1 + D2.k, .slice none 0 0, .slice A2 cs.length c2, .slice none 0 0, .slice none 0 0, .map none, .slice none 0 0⟩, ?_⟩
  refine ⟨?_, ?_, ?_, ?_, .inl rfl, .inr rfl, ?_, ⟨_, m1.of_cell (b0 _ (by omega)), fun q => trivial⟩, ⟨_, 0, m2.of_cell (b2 _ (by omega)), fun q => .inl ⟨rfl, rfl⟩, fun _ _ _ _ _ _ h => by cases h⟩, DB.nil _ _, ⟨SC.own hO', fun k hk => ?_⟩, ⟨own_nil _ _ _ _, fun k hk => by simp [Value.ownBlock] at hk⟩, ⟨[], rfl, own_nil _ _ _ _, fun i h => by simp [dv0] at h, fun k hk => by simp [Value.ownBlock] at hk⟩⟩
  · unfold DevAt
    rw [hW, ← e3, heap_alloc_last]
    rfl
  · omega
  · dsimp only; omega
  · dsimp only; omega
  · dsimp only; omega
  · obtain ⟨h2, h3, h4⟩ := own_vBlock hO' k hk
    exact ⟨by omega, h4⟩

theorem new_ok (s r : Int) (v : Value) (cs : List Ch) (w : World) (h : 1 ≤ s ∧ s ≤ 4096 ∧ 0 ≤ r ∧ r ≤ 1048576) (hc : SC w 3 v cs.length (cs.flatMap chC)) (hn : cs.length ≤ 1099511627776) (hb : mayB cs = true) :
    Calls Try.prog 6 #[.int .i64 s, .int .i64 r, v] w fun e w' => ∃ D, e = .returned (.tuple #[.pointer (some ⟨D, 0, none⟩), .int .i64 0]) ∧ Below w.heap.size w w' ∧ Inv w' D (fun k => w.heap.size ≤ k ∧ k < w'.heap.size) (dv0 s r cs) := by
  have t0 : ¬ s < 1 := by omega
  have t1 : ¬ 4096 < s := by omega
  have t2 : ¬ r < 0 := by omega
  have t3 : ¬ 1048576 < r := by omega
  have HCC := Lib.hid hc
  have HN := Lib.hid hn
  have HM := Lib.hid (mayBe_any v cs w hc hn)
  rw [hb] at HM
  clear h hc hn hb
  go_enter Try.func6, Try.ntmps6
  go_wp2_with (first
    | (go_at_call 30; refine HM.out.mono ?_; rintro en w1 ⟨rfl, hb1⟩; obtain ⟨D1, rfl⟩ := gr_of_below hb1; clear hb1)
    | (go_at_call 31; refine (cclone_any _ _ _ _ (HCC.out.below (by (repeat (first | exact Below.refl _ _ | refine bg_al ?_ | refine bg_gr ?_ | refine bg_drn ?_ | refine bg_dr ?_ | assumption)))).src (chC_one _) HN.out (HCC.out.below (by (repeat (first | exact Below.refl _ _ | refine bg_al ?_ | refine bg_gr ?_ | refine bg_drn ?_ | refine bg_dr ?_ | assumption)))).nz).mono ?_; rintro en w2 ⟨A2, c2, rfl, ho2, hb2⟩; obtain ⟨D2, rfl⟩ := gr_of_below hb2; clear hb2; have HO2 := Lib.hid ho2; clear ho2))
  go_ret2
  have hI := inv_new w (w.gr D1) D2 s r cs A2 c2 (by rw [size_gr]; omega) HO2.out _ rfl _ rfl
  rw [size_gr] at hI
  exact ⟨_, rfl, by (repeat (first | exact Below.refl _ _ | refine bg_al ?_ | refine bg_gr ?_ | refine bg_drn ?_ | refine bg_dr ?_ | assumption)), hI⟩
end Go.Proofs.Ytcbglojjbgenlaa
