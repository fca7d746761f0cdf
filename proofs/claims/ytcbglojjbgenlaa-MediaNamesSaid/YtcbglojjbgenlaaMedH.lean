/- 'm[k] = append(m[k], x)': the map's entry. -/
import Derived.Test.YtcbglojjbgenlaaMedF
namespace Go.Proofs.Ytcbglojjbgenlaa
open Go.RowKit Go.MapL Go.ChangeMaps Go.MapKept
set_option linter.unusedSimpArgs false
set_option linter.unusedVariables false

theorem find_born {l : List MapEntry} (hn : (l.map (·.born)).Nodup) {j : Nat} {e0 : MapEntry} (h : l[j]? = some e0) : l.findIdx? (fun e => ((e.born : Nat) : Int) == ((e0.born : Nat) : Int)) = some j := by
  induction l generalizing j with
  | nil => simp at h
  | cons a r ih =>
    simp only [List.map_cons, List.nodup_cons] at hn
    cases j with
    | zero =>
      have h' : a = e0 := by simpa using h
      subst h'
      simp [List.findIdx?_cons]
    | succ j =>
      have h' : r[j]? = some e0 := by simpa using h
      have hne : a.born ≠ e0.born := fun e1 => hn.1 (List.mem_map.2 ⟨e0, List.mem_of_getElem? h', e1.symm⟩)
      rw [List.findIdx?_cons, show (((a.born : Nat) : Int) == ((e0.born : Nat) : Int)) = false from by simp; omega]
      simp [ih hn.2 h']
theorem mod_last {α : Type} (f : α → α) (a : α) : ∀ l : List α, (l ++ [a]).modify l.length f = l ++ [f a]
  | [] => rfl
  | b :: r => by simp [List.modify_succ_cons, mod_last f a r]
theorem set_same {α : Type} : ∀ (l : List α) (j : Nat) (a : α), l[j]? = some a → l.set j a = l
  | [], _, _, h => by simp at h
  | b :: r, 0, a, h => by simp at h; subst h; rfl
  | b :: r, j + 1, a, h => by simp at h; simp [set_same r j a h]
theorem idx_arr (xs : Array MapEntry) (p : MapEntry → Bool) : xs.findIdx? p = xs.toList.findIdx? p := by
  cases xs
  simp
theorem map_entry {w : World} {B n : Nat} {m : H32 → Option Value} {t e : TypeId} (h : MapIs HC w B m n) (ht : (Try.prog).underlying t = some (.map 33 e)) {z : Value} (hz : ∀ u : World, (zeroValue e).run Try.prog u = .ok z u) (q : H32) :
    ∃ (st : Nat) (o1 : Obj), (Instr.mapEntry t (.map (some B)) (hv q)).run Try.prog w = .ok (.tuple #[(m q).getD z, .int .i64 st]) (setBlock w B o1) ∧
      ∀ (w2 : World) (val : Value), w2.heap[B]? = some o1 → ∃ o2, (Instr.entryStore t (.map (some B)) (.int .i64 st) val).run Try.prog w2 = .ok () (setBlock w2 B o2) ∧ MapIs HC (setBlock w2 B o2) B (putV m q val) (if (m q).isSome then n else n + 1) := by
  obtain ⟨l, hl⟩ := hash_key q
  have hput := fun val => h.put ht q val
  obtain ⟨es, clk, hb, hs, hn, hk, hm, hc⟩ := h.search q
  obtain ⟨s1, s2, s3⟩ := (stamped_iff es clk).1 hs
  rcases hc with ⟨e1, h1, h2⟩ | ⟨j, e0, e1, h1, h2, h3⟩
  · refine ⟨clk, .map (es.push ⟨hv q, z, clk⟩) (clk + 1), ?_, fun w2 val hw2 => ⟨.map (es.push ⟨hv q, val, clk⟩) (clk + 1), ?_, ?_⟩⟩
    · rw [e1]
      have h1' : (Instr.findKey 33 (hv q) es.toList).run Try.prog w = .ok none w := h1
      simp [Instr.mapEntry, run_underlying ht, MapKept.run_getObj_map hb, hashLaw.check w false hl, h1', hz, MapKept.run_setObj_map _ hb, Result.andThen, setBlock, goInt]
    · have hidx : (es.push ⟨hv q, z, clk⟩).findIdx? (fun e => ((e.born : Nat) : Int) == ((clk : Nat) : Int)) = some es.size := by
        rw [idx_arr]
        exact find_born (l := (es.push ⟨hv q, z, clk⟩).toList) (j := es.size) (e0 := ⟨hv q, z, clk⟩) (by
          simp only [Array.toList_push, List.map_append, List.map_cons, List.map_nil]
          refine List.nodup_append.2 ⟨s2, by simp, fun a ha c hc e1 => ?_⟩
          simp only [List.mem_singleton] at hc
          obtain ⟨x, hx, rfl⟩ := List.mem_map.1 ha
          have := s1 x hx
          omega) (by simp)
      have hmod : (es.push ⟨hv q, z, clk⟩).modify es.size (fun e => { e with val := val }) = es.push ⟨hv q, val, clk⟩ := by
        apply Array.ext'
        rw [Array.toList_modify, Array.toList_push, Array.toList_push, ← Array.length_toList, mod_last]
      simp [Instr.entryStore, MapKept.run_getObj_map hw2, asInt, asIntOf, hidx, hmod, MapKept.run_setObj_map _ hw2, Result.andThen, setBlock]
    · obtain ⟨o, hrun, hmap⟩ := hput val
      have h1' : (Instr.findKey 33 (hv q) es.toList).run Try.prog w = .ok none w := h1
      have hrun2 : (Instr.mapUpdate t (.map (some B)) (hv q) val).run Try.prog w = .ok () (setBlock w B (.map (es.push ⟨hv q, val, clk⟩) (clk + 1))) := by
        simp [Instr.mapUpdate, run_underlying ht, MapKept.run_getObj_map hb, hashLaw.check w false hl, h1', MapKept.run_setObj_map _ hb, Result.andThen, setBlock]
      have hsame : setBlock w B o = setBlock w B (.map (es.push ⟨hv q, val, clk⟩) (clk + 1)) := by
        have := hrun.symm.trans hrun2
        injection this
      refine hmap.of_cell ?_
      rw [hsame, heap_setBlock_same hb, heap_setBlock_same hw2]
  · have hj : es[j]? = some e0 := by simpa using h2
    have h3' : e0.key = hv q := h3
    have hsame : es.modify j (fun e => { e with key := hv q }) = es := by
      apply Array.ext'
      rw [Array.toList_modify, modify_eq_set _ _ _ _ h2]
      have : ({ e0 with key := hv q } : MapEntry) = e0 := by rw [← h3']
      rw [this]
      exact set_same _ _ _ h2
    have h1' : (Instr.findKey 33 (hv q) es.toList).run Try.prog w = .ok (some (j, e0.val)) w := h1
    refine ⟨e0.born, .map es clk, ?_, fun w2 val hw2 => ⟨.map (es.modify j (fun e' => { e' with key := hv q, val := val })) clk, ?_, ?_⟩⟩
    · rw [e1]
      simp [Instr.mapEntry, run_underlying ht, MapKept.run_getObj_map hb, hashLaw.check w false hl, h1', hj, h3', hashLaw.stays w hl, hsame, MapKept.run_setObj_map _ hb, Result.andThen, setBlock, goInt]
    · have hidx : es.findIdx? (fun e => ((e.born : Nat) : Int) == ((e0.born : Nat) : Int)) = some j := by
        rw [idx_arr]
        exact find_born s2 h2
      have hmod : es.modify j (fun e => { e with val := val }) = es.modify j (fun e' => { e' with key := hv q, val := val }) := by
        apply Array.ext'
        rw [Array.toList_modify, Array.toList_modify, modify_eq_set _ _ _ _ h2, modify_eq_set _ _ _ _ h2, ← h3']
      simp [Instr.entryStore, MapKept.run_getObj_map hw2, asInt, asIntOf, hidx, hmod, MapKept.run_setObj_map _ hw2, Result.andThen, setBlock]
    · obtain ⟨o, hrun, hmap⟩ := hput val
      have hrun2 : (Instr.mapUpdate t (.map (some B)) (hv q) val).run Try.prog w = .ok () (setBlock w B (.map (es.modify j (fun e' => { e' with key := hv q, val := val })) clk)) := by
        simp [Instr.mapUpdate, run_underlying ht, MapKept.run_getObj_map hb, hashLaw.check w false hl, h1', hj, h3', hashLaw.stays w hl, MapKept.run_setObj_map _ hb, Result.andThen, setBlock]
      have hsame2 : setBlock w B o = setBlock w B (.map (es.modify j (fun e' => { e' with key := hv q, val := val })) clk) := by
        have := hrun.symm.trans hrun2
        injection this
      refine hmap.of_cell ?_
      rw [hsame2, heap_setBlock_same hb, heap_setBlock_same hw2]
end Go.Proofs.Ytcbglojjbgenlaa
