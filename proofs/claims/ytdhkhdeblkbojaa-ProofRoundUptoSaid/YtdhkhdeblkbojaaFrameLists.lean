/- From the form's reading of a list of strings to SLs. -/
import Derived.Test.YtdhkhdeblkbojaaFrameItem
import Derived.Test.YtdhkhdeblkbojaaPrfB
namespace Go.Proofs.Ytdhkhdeblkbojaa
open Go.ChangeShapes Go.WideShapes Go.ChangeAt Go.RowKit Go.Deep

theorem cells1 {W : World} {base : Nat} {a : Addr} {cs : List Value} (h : W.cells? base a 1 = some cs) : ∃ u0, cs = [u0] ∧ W.cell? (a.add 0) = some u0 := by
  unfold World.cells? at h
  split at h
  · have e : List.range 1 = [0] := rfl
    rw [e] at h
    simp only [List.mapM_cons, List.mapM_nil] at h
    cases h0 : W.cell? (a.add 0) with
    | none => rw [h0] at h; simp at h
    | some u0 =>
      rw [h0] at h
      simp at h
      exact ⟨u0, h.symm, rfl⟩
  · cases h

set_option maxRecDepth 100000 in
theorem view_lists {H : Type} {enc : TypeId × Value → H} {W : World} {base : Nat} {spare : Nat → Bool} {held : Bool} {fuel : Nat} {a : Option Addr} {len cap : Nat} {x : DataW H × List MemPlace}
    (h : DataW.trod enc Try.prog W base spare held fuel 32 [.slice a len cap] = some x) :
    ∃ (vs : List Value) (ls : List (List UInt8)), ls.length = len ∧ SLs W a vs ls ∧ (∀ l ∈ ls, l.length ≤ Rows.uptoBulk x.1) ∧ len ≤ Rows.uptoBulk x.1 := by
  rcases open_slice Try.underlying32 h with ⟨e, hx⟩ | ⟨a', len', cap', m, n', D, Pl, e, hb, hlc, hcm, hm, hx, hall⟩
  · simp at e
    obtain ⟨rfl, rfl, rfl⟩ := e
    exact ⟨[], [], rfl, ⟨rfl, fun k hk => (by simp at hk), fun i hi => (by simp at hi)⟩, fun l hl => (by simp at hl), by omega⟩
  · simp at e
    obtain ⟨rfl, rfl, rfl⟩ := e
    have hc1 : Try.prog.cellsOf 22 = 1 := by kernel_rfl
    have hall2 : ∀ i, i < len → ∃ u, W.cell? (a'.add i) = some u ∧ DataW.trod enc Try.prog W base spare held n' 22 [u] = some (D i, Pl i) := fun i hi => by
      obtain ⟨cs', k1, k2⟩ := hall i (by rw [hm]; split <;> omega)
      rw [hc1, Nat.mul_one] at k1
      obtain ⟨u0, rfl, k3⟩ := cells1 k1
      rw [add_add, Nat.add_zero] at k3
      exact ⟨u0, k3, k2⟩
    have hE : ∀ j, j ≤ len → ∃ (vs : List Value) (ls : List (List UInt8)), vs.length = j ∧ ls.length = j ∧ (∀ (t : Nat) (u : Value), vs[t]? = some u → W.cell? (a'.add t) = some u) ∧ (∀ i (h : i < vs.length) (h' : i < ls.length), SB W vs[i] ls[i]) ∧ (∀ l ∈ ls, l.length ≤ Rows.uptoBulkAll ((List.range j).map D)) := by
      intro j
      induction j with
      | zero => intro _; exact ⟨[], [], rfl, rfl, fun t u h => (by simp at h), fun i h => (by simp at h), fun l hl => (by simp at hl)⟩
      | succ j ihj =>
        intro hj
        obtain ⟨vs, ls, e1, e2, e3, e4, e5⟩ := ihj (by omega)
        obtain ⟨u, k1, k2⟩ := hall2 j (by omega)
        obtain ⟨A1, n1, cc1, rfl⟩ : ∃ A1 n1 cc1, u = .slice A1 n1 cc1 := by
          rcases open_slice Try.underlying22 k2 with ⟨e, _⟩ | ⟨a, len, cap, m, n', D, Pl, e, _⟩
          · simp at e; exact ⟨_, _, _, e⟩
          · simp at e; exact ⟨_, _, _, e⟩
        obtain ⟨l, rfl, hs1, hd1⟩ := view_bytes k2
        have hb1 := bulk_bytes hd1
        dsimp only at hb1
        have hbb : Rows.uptoBulkAll ((List.range (j + 1)).map D) = Rows.uptoBulkAll ((List.range j).map D) + Rows.uptoBulk (D j) := by
          rw [List.range_succ, List.map_append, bulkAll_append]
          simp [Rows.uptoBulkAll]
        refine ⟨vs ++ [.slice A1 l.length cc1], ls ++ [l], by simp [e1], by simp [e2], fun t u ht => ?_, fun i h h' => ?_, fun l' hl => ?_⟩
        · by_cases htl : t < vs.length
          · rw [List.getElem?_append_left htl] at ht
            exact e3 t u ht
          · rw [List.getElem?_append_right (by omega)] at ht
            have ht0 : t = j := by
              have := (List.getElem?_eq_some_iff.1 ht).1
              simp at this
              omega
            subst ht0
            rw [e1, Nat.sub_self] at ht
            simp at ht
            subst ht
            exact k1
        · by_cases hiv : i < vs.length
          · simp only [List.getElem_append_left hiv, List.getElem_append_left (show i < ls.length by omega)]
            exact e4 i hiv (by omega)
          · have hie : i = vs.length := by simp at h; omega
            rw [last_get vs _ i h hie, last_get ls l i h' (by omega)]
            exact hs1
        · rw [hbb]
          rcases List.mem_append.1 hl with hl | hl
          · have := e5 l' hl; omega
          · simp only [List.mem_singleton] at hl
            subst hl
            omega
    obtain ⟨vs, ls, e1, e2, e3, e4, e5⟩ := hE len (Nat.le_refl _)
    have h4 : Rows.uptoBulk x.1 = Rows.uptoBulkAll ((List.range len).map D) + Rows.uptoBulkAll ((List.range (m - len)).map fun j => D (len + j)) + 1 := by rw [hx]; simp only [Rows.uptoBulk]
    have h5 := bulk_length ((List.range len).map D)
    rw [List.length_map, List.length_range] at h5
    refine ⟨vs, ls, e2, ⟨by rw [e1, e2], fun k hk => ?_, fun i hi => e4 i hi (by rw [e2, ← e1]; exact hi)⟩, fun l hl => by have := e5 l hl; omega, by omega⟩
    have hc := e3 k vs[k] (List.getElem?_eq_getElem hk)
    obtain ⟨b, off, spot⟩ := a'
    have hspot : spot = none := by
      have h0 := e3 0 vs[0] (List.getElem?_eq_getElem (by omega))
      have := World.cell?_spot h0
      simpa [Addr.add] using this
    subst hspot
    rw [addr_add] at hc
    exact ⟨b, off, rfl, hc⟩
end Go.Proofs.Ytdhkhdeblkbojaa
