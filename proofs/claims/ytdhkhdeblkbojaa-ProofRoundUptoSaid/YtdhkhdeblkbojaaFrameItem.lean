/- From the form's reading of a nested item to RdI. -/
import Derived.Test.YtdhkhdeblkbojaaFrame
import Derived.Test.YtdhkhdeblkbojaaRlpRound
import Derived.Deep.Strs
import Derived.Deep.Slices
namespace Go.Proofs.Ytdhkhdeblkbojaa
open Go.ChangeShapes Go.WideShapes Go.ChangeAt Go.RowKit Go.Deep

theorem three_of {cs : List Value} (h : cs.length = 3) : ∃ v0 v1 v2, cs = [v0, v1, v2] := by
  match cs, h with
  | [a, b, c], _ => exact ⟨a, b, c, rfl⟩
theorem cells3 {W : World} {base : Nat} {a : Addr} {cs : List Value} (h : W.cells? base a 3 = some cs) : ∃ u0 u1 u2, cs = [u0, u1, u2] ∧ W.cell? (a.add 0) = some u0 ∧ W.cell? (a.add 1) = some u1 ∧ W.cell? (a.add 2) = some u2 := by
  unfold World.cells? at h
  split at h
  · have e : List.range 3 = [0, 1, 2] := rfl
    rw [e] at h
    simp only [List.mapM_cons, List.mapM_nil] at h
    cases h0 : W.cell? (a.add 0) with
    | none => rw [h0] at h; simp at h
    | some u0 =>
      cases h1 : W.cell? (a.add 1) with
      | none => rw [h0, h1] at h; simp at h
      | some u1 =>
        cases h2 : W.cell? (a.add 2) with
        | none => rw [h0, h1, h2] at h; simp at h
        | some u2 =>
          rw [h0, h1, h2] at h
          simp at h
          exact ⟨u0, u1, u2, h.symm, rfl, rfl, rfl⟩
  · cases h
theorem view_bool {P : Program} {t : TypeId} (ht : P.underlying t = some .bool) {H : Type} {enc : TypeId × Value → H} {W : World} {base : Nat} {spare : Nat → Bool} {held : Bool} {n : Nat} {v0 : Value} {y : DataW H × List MemPlace}
    (h : DataW.trod enc P W base spare held n t [v0] = some y) : ∃ b, v0 = .bool b := by
  cases n with
  | zero => simp [DataW.trod] at h
  | succ n =>
    unfold DataW.trod at h
    rw [ht] at h
    cases v0 <;> first | exact ⟨_, rfl⟩ | (simp at h)
theorem bulkAll_append {H : Type} (p q : List (DataW H)) : Rows.uptoBulkAll (p ++ q) = Rows.uptoBulkAll p + Rows.uptoBulkAll q := by
  induction p with
  | nil => simp [Rows.uptoBulkAll]
  | cons x r ih => simp only [List.cons_append, Rows.uptoBulkAll, ih]; omega
theorem bulkAll_mem {H : Type} {p : List (DataW H)} {d : DataW H} (h : d ∈ p) : Rows.uptoBulk d ≤ Rows.uptoBulkAll p := by
  induction p with
  | nil => cases h
  | cons x r ih =>
    simp only [Rows.uptoBulkAll]
    rcases List.mem_cons.1 h with rfl | h
    · omega
    · have := ih h; omega
theorem flat_len (E : List Ent) : (E.flatMap Ent.cells).length = E.length * 3 := by
  induction E with
  | nil => rfl
  | cons e r ih => rw [List.flatMap_cons, List.length_append, ih, List.length_cons]; simp [Ent.cells]; omega
theorem wtL_append (p q : List It) : wtL (p ++ q) = wtL p + wtL q := by
  induction p with
  | nil => simp [wtL]
  | cons x r ih => rw [List.cons_append, wtL, wtL, ih]; omega

set_option maxRecDepth 100000 in
theorem view_item {H : Type} {enc : TypeId × Value → H} {W : World} {base : Nat} {spare : Nat → Bool} {held : Bool} (k : Nat) : ∀ (fuel : Nat) (cs : List Value) (x : DataW H × List MemPlace),
    DataW.trod enc Try.prog W base spare held fuel 42 cs = some x → Rows.uptoBulk x.1 ≤ k → ∃ v0 v1 v2 it sv, cs = [v0, v1, v2] ∧ RdI W (fun _ => True) v0 v1 v2 it sv ∧ wtI it ≤ 16 * Rows.uptoBulk x.1 := by
  induction k using Nat.strongRecOn with
  | _ k ih =>
    intro fuel cs x h hk
    obtain ⟨y0, y1, y2, n, rfl, hl, h0, h1, h2⟩ := trod_struct3 Try.underlying42 h
    have hc3 : Try.prog.cellsOf 42 = 3 := by kernel_rfl
    rw [hc3] at hl
    obtain ⟨v0, v1, v2, rfl⟩ : ∃ v0 v1 v2, cs = [v0, v1, v2] := three_of hl
    · skip
      have c0 : Try.prog.cellsOf 4 = 1 := by kernel_rfl
      have c1 : Try.prog.cellsOf 22 = 1 := by kernel_rfl
      have c2 : Try.prog.cellsOf 40 = 1 := by kernel_rfl
      change DataW.trod enc Try.prog W base spare held n 4 (([v0, v1, v2].drop 0).take (Try.prog.cellsOf 4)) = _ at h0
      change DataW.trod enc Try.prog W base spare held n 22 (([v0, v1, v2].drop 1).take (Try.prog.cellsOf 22)) = _ at h1
      change DataW.trod enc Try.prog W base spare held n 40 (([v0, v1, v2].drop 2).take (Try.prog.cellsOf 40)) = _ at h2
      rw [c0] at h0
      rw [c1] at h1
      rw [c2] at h2
      change DataW.trod enc Try.prog W base spare held n 4 [v0] = _ at h0
      change DataW.trod enc Try.prog W base spare held n 22 [v1] = _ at h1
      change DataW.trod enc Try.prog W base spare held n 40 [v2] = _ at h2
      obtain ⟨bb, rfl⟩ := view_bool Try.underlying4 h0
      obtain ⟨A1, n1, cc1, rfl⟩ : ∃ A1 n1 cc1, v1 = .slice A1 n1 cc1 := by
        rcases open_slice Try.underlying22 h1 with ⟨e, _⟩ | ⟨a, len, cap, m, n', D, Pl, e, _⟩
        · simp at e; exact ⟨_, _, _, e⟩
        · simp at e; exact ⟨_, _, _, e⟩
      obtain ⟨l, rfl, hs1, hd1⟩ := view_bytes h1
      have hb1 := bulk_bytes hd1
      have hbk : Rows.uptoBulk (DataW.agg [y0.1, y1.1, y2.1]) = 1 + (Rows.uptoBulk y0.1 + (Rows.uptoBulk y1.1 + (Rows.uptoBulk y2.1 + 0))) := by simp only [Rows.uptoBulk, Rows.uptoBulkAll]; try omega
      have hb0 := bulk_one y0.1
      rcases open_slice Try.underlying40 h2 with ⟨e, hx⟩ | ⟨a, len, cap, m, n', D, Pl, e, hb, hlc, hcm, hm, hx, hall⟩
      · simp at e
        subst e
        refine ⟨_, _, _, _, _, rfl, RdI.leaf bb hs1 (fun _ _ _ _ => trivial), ?_⟩
        rw [wtI, wtL]
        simp only [hbk]
        omega
      · simp at e
        subst e
        have hc3' : Try.prog.cellsOf 42 = 3 := hc3
        have hall2 : ∀ i, i < len → ∃ cs', W.cells? base (a.add (i * 3)) 3 = some cs' ∧ DataW.trod enc Try.prog W base spare held n' 42 cs' = some (D i, Pl i) := fun i hi => by
          obtain ⟨cs', k1, k2⟩ := hall i (by rw [hm]; split <;> omega)
          rw [hc3'] at k1
          exact ⟨cs', k1, k2⟩
        have hDk : ∀ i, i < len → Rows.uptoBulk (D i) < k := fun i hi => by
          have hmem : D i ∈ (List.range len).map D := List.mem_map.2 ⟨i, List.mem_range.2 hi, rfl⟩
          have h3 := bulkAll_mem hmem
          have h4 : Rows.uptoBulk y2.1 = Rows.uptoBulkAll ((List.range len).map D) + Rows.uptoBulkAll ((List.range (m - len)).map fun j => D (len + j)) + 1 := by rw [hx]; simp only [Rows.uptoBulk]
          have h5 : Rows.uptoBulk (DataW.agg [y0.1, y1.1, y2.1]) ≤ k := hk
          omega
        have hE : ∀ j, j ≤ len → ∃ E : List Ent, E.length = j ∧ (∀ (t : Nat) (u : Value), (E.flatMap Ent.cells)[t]? = some u → W.cell? (a.add t) = some u) ∧ (∀ e ∈ E, RdI W (fun _ => True) e.v0 e.v1 e.v2 e.x e.sv) ∧ wtL (E.map (·.x)) ≤ 16 * Rows.uptoBulkAll ((List.range j).map D) := by
          intro j
          induction j with
          | zero => intro _; exact ⟨[], rfl, fun t u h => by simp at h, fun e he => (by cases he), by simp [wtL]⟩
          | succ j ihj =>
            intro hj
            obtain ⟨E, e1, e2, e3, e4⟩ := ihj (by omega)
            obtain ⟨cs', k1, k2⟩ := hall2 j (by omega)
            obtain ⟨u0, u1, u2, it, sv, rfl, hrd, hw⟩ := ih _ (hDk j (by omega)) n' cs' (D j, Pl j) k2 (Nat.le_refl _)
            obtain ⟨w0, w1, w2, he, g0, g1, g2⟩ := cells3 k1
            injection he with q0 he
            injection he with q1 he
            injection he with q2 he
            subst q0 q1 q2
            rw [add_add] at g0 g1 g2
            refine ⟨E ++ [⟨u0, u1, u2, it, sv⟩], by simp [e1], fun t u ht => ?_, fun e he => ?_, ?_⟩
            · rw [List.flatMap_append] at ht
              have hfl := flat_len E
              by_cases htl : t < (E.flatMap Ent.cells).length
              · rw [List.getElem?_append_left htl] at ht
                exact e2 t u ht
              · rw [List.getElem?_append_right (by omega)] at ht
                obtain ⟨r, rfl⟩ : ∃ r, t = j * 3 + r := ⟨t - j * 3, by omega⟩
                rw [hfl, e1, Nat.add_sub_cancel_left] at ht
                match r, ht with
                | 0, ht => simp [Ent.cells] at ht; subst ht; exact g0
                | 1, ht => simp [Ent.cells] at ht; subst ht; exact g1
                | 2, ht => simp [Ent.cells] at ht; subst ht; exact g2
                | r + 3, ht => simp [Ent.cells] at ht
            · rcases List.mem_append.1 he with he | he
              · exact e3 e he
              · simp only [List.mem_singleton] at he
                subst he; exact hrd
            · rw [List.map_append, wtL_append, List.range_succ, List.map_append, bulkAll_append]
              simp only [List.map_cons, List.map_nil, wtL, Rows.uptoBulkAll]
              dsimp only at hw
              omega
        obtain ⟨E, e1, e2, e3, e4⟩ := hE len (Nat.le_refl _)
        subst e1
        have h4 : Rows.uptoBulk y2.1 = Rows.uptoBulkAll ((List.range E.length).map D) + Rows.uptoBulkAll ((List.range (m - E.length)).map fun j => D (E.length + j)) + 1 := by rw [hx]; simp only [Rows.uptoBulk]
        refine ⟨_, _, _, _, _, rfl, RdI.mk bb _ l (some a) cap E hs1 (fun _ _ _ _ => trivial) hlc hcm (fun e => by cases e) (fun _ _ => trivial) ⟨_, _, rfl, flat_len E, fun j u hj => ⟨a, rfl, e2 j u hj⟩⟩ e3, ?_⟩
        rw [wtI]
        simp only [hbk]
        omega
end Go.Proofs.Ytdhkhdeblkbojaa
