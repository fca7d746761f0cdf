/- A device behind a Put. -/
import Derived.Test.YtcbglojjbgenlaaMedR
namespace Go.Proofs.Ytcbglojjbgenlaa
open Go.RowKit Go.MapL Go.ChangeMaps Go.MapKept
set_option linter.unusedSimpArgs false
set_option linter.unusedVariables false

theorem MapV.put {w w' : World} {F F' S : Nat → Prop} {V nV' : Nat} {mV : H32 → Option Value} {vs : H32 → List Bs} {q : H32} {vo v9 v : Value} {l : Bs} {vals9 : List Value}
    (h1 : ∀ q, (mV q = none ∧ vs q = []) ∨ ∃ v, mV q = some v ∧ VerV w F v (vs q)) (h2 : ∀ q q' v v' k, q ≠ q' → mV q = some v → mV q' = some v' → v.ownBlock = some k → v'.ownBlock ≠ some k)
    (hvo : (mV q).getD (.slice none 0 0) = vo) (hm : MapIs HC w' V (putV mV q v9) nV') (hown : w'.ownsRow 0 29 1 v9 ((vs q).length + 1) (vals9 ++ [v])) (hvals : w.ownsRow 0 29 1 vo (vs q).length vals9) (hv9 : ∀ i (h : i < (vs q).length) (h' : i < vals9.length), DB w F vals9[i] (vs q)[i])
    (hblk : v9.ownBlock = vo.ownBlock ∨ ∃ k, w.heap.size ≤ k ∧ v9.ownBlock = some k) (hv : DB w' F' v l)
    (hc : Chg S w w') (hS : ∀ k c fr, w.heap[k]? = some (.cells c 29 fr) → S k → vo.ownBlock = some k) (hs : ∀ k, isBytes w k → ¬ S k) (hF : ∀ k, F k → F' k) (hFn : ∀ k, w.heap.size ≤ k → k < w'.heap.size → F' k) :
    MapV w' F' V (updL vs q (vs q ++ [l])) := by
  have hvoF : ∀ k, vo.ownBlock = some k → F k := fun k hk => by
    rcases h1 q with ⟨e, _⟩ | ⟨v1, e, _, _, _, h⟩
    · rw [e] at hvo
      subst hvo
      simp [Value.ownBlock] at hk
    · rw [e] at hvo
      simp only [Option.getD_some] at hvo
      subst hvo
      exact h k hk
  have hother : ∀ q', q' ≠ q → ∀ v1, mV q' = some v1 → ∀ k, v1.ownBlock = some k → ¬ vo.ownBlock = some k := fun q' hq v1 e k hk hvk => by
    cases e2 : mV q with
    | none =>
      rw [e2] at hvo
      simp only [Option.getD_none] at hvo
      subst hvo
      simp [Value.ownBlock] at hvk
    | some v2 =>
      rw [e2] at hvo
      simp only [Option.getD_some] at hvo
      subst hvo
      exact h2 q' q v1 v2 k hq e e2 hk hvk
  have hlt : ∀ q' v1, mV q' = some v1 → ∀ k, v1.ownBlock = some k → k < w.heap.size := fun q' v1 e k hk => by
    rcases h1 q' with ⟨e', _⟩ | ⟨v2, e', vals, ho, _⟩
    · rw [e] at e'; cases e'
    · rw [e] at e'
      injection e' with e'
      subst e'
      obtain ⟨_, _, hh⟩ := own_heap ho hk
      exact (Array.getElem?_eq_some_iff.1 hh).1
  have h9 : ∀ q', q' ≠ q → ∀ v1, mV q' = some v1 → ∀ k, v1.ownBlock = some k → v9.ownBlock ≠ some k := fun q' hq v1 e k hk hk9 => by
    rcases hblk with h | ⟨j, hj, h⟩
    · exact hother q' hq v1 e k hk (h ▸ hk9)
    · rw [h] at hk9
      injection hk9 with hk9
      have := hlt q' v1 e k hk
      omega
  refine ⟨_, nV', hm, fun q' => ?_, fun q1 q2 v1 v2 k hq e1 e2 hk1 hk2 => ?_⟩
  · by_cases hq : q' = q
    · subst hq
      refine Or.inr ⟨v9, putV_same _ _ _, vals9 ++ [v], ?_, fun i hi hi' => ?_, fun k hk => ?_⟩
      · simp only [updL, if_true, List.length_append, List.length_cons, List.length_nil]
        exact hown
      · simp only [updL, if_true] at hi ⊢
        have hvl : vals9.length = (vs q').length := by have := hvals.1; simpa using this
        rcases getElem_snoc (vs q') l i hi with ⟨a1, b1⟩ | ⟨a1, b1⟩
        · have c1 : i < vals9.length := by omega
          rw [b1, List.getElem_append_left c1]
          exact ((hv9 i a1 c1).chg hc hs).mono hF
        · subst a1
          rw [b1]
          have : (vals9 ++ [v])[(vs q').length] = v := by
            rw [List.getElem_append_right (by omega)]
            simp
          rw [this]
          exact hv
      · rcases hblk with h | ⟨j, hj, h⟩
        · exact hF k (hvoF k (h ▸ hk))
        · rw [h] at hk
          injection hk with hk
          subst hk
          obtain ⟨_, _, hh⟩ := own_heap hown h
          exact hFn _ hj (Array.getElem?_eq_some_iff.1 hh).1
    · simp only [updL, if_neg hq]
      rcases h1 q' with ⟨e, e'⟩ | ⟨v1, e, hV⟩
      · exact Or.inl ⟨by rw [putV_other _ _ hq]; exact e, e'⟩
      · refine Or.inr ⟨v1, by rw [putV_other _ _ hq]; exact e, hV.chg hc (fun k hk hSk => ?_) hs hF⟩
        obtain ⟨vals, ho, _⟩ := hV
        obtain ⟨c, fr, hh⟩ := own_heap ho hk
        exact hother q' hq v1 e k hk (hS k c fr hh hSk)
  · by_cases a1 : q1 = q
    · subst a1
      rw [putV_same] at e1
      injection e1 with e1
      subst e1
      rw [putV_other _ _ (fun e => hq e.symm)] at e2
      exact h9 q2 (fun e => hq e.symm) v2 e2 k hk2 hk1
    · rw [putV_other _ _ a1] at e1
      by_cases a2 : q2 = q
      · subst a2
        rw [putV_same] at e2
        injection e2 with e2
        subst e2
        exact h9 q1 a1 v1 e1 k hk1 hk2
      · rw [putV_other _ _ a2] at e2
        exact h2 q1 q2 v1 v2 k hq e1 e2 hk1 hk2

/-- .. that has put a blob. -/
theorem inv_put {w w' : World} {D A : Nat} {F : Nat → Prop} {d : Dv} {m : Mm} (hI : Core w D F (fun k => k = m.B ∨ k = m.V) d m) {kind n cnt : Int} {q tag : H32} {da ks : Value} (hA : DeedAt w A kind q da ks n cnt tag) (key : H32)
    (vals : List (Value × Value)) (hvl : vals.length = d.past.length) (hrp0 : w.ownsRow 0 82 2 m.pv d.past.length (pastC vals)) (hpc : ∀ i (h : i < d.past.length) (h' : i < vals.length), PcAt w F (fun k => k = m.B ∨ k = m.V) vals[i].1 vals[i].2 d.past[i]) (hpF : ∀ k, m.pv.ownBlock = some k → F k)
    (mB mV : H32 → Option Value) (hrB : ∀ q, OptR (DB w F) (mB q) (d.blobs q)) (hBl : m.B < w.heap.size) (hVl : m.V < w.heap.size)
    (h1 : ∀ q, (mV q = none ∧ d.vers q = []) ∨ ∃ v, mV q = some v ∧ VerV w F v (d.vers q)) (h2 : ∀ q q' v v' k, q ≠ q' → mV q = some v → mV q' = some v' → v.ownBlock = some k → v'.ownBlock ≠ some k)
    (vo v9 v xo : Value) (vals9 : List Value) (xb : Bool) (l : Bs) (n' nV' : Nat) (hvo : (mV key).getD (.slice none 0 0) = vo) (hxo : (mB key).getD (.slice none 0 0) = xo) (hxb : (mB key).isSome = xb)
    (hvals : w.ownsRow 0 29 1 vo (d.vers key).length vals9) (hv9 : ∀ i (h : i < (d.vers key).length) (h' : i < vals9.length), DB w F vals9[i] (d.vers key)[i])
    (hmB : MapIs HC w' m.B (putV mB key v) n') (hmV : MapIs HC w' m.V (putV mV key v9) nV') (hown : w'.ownsRow 0 29 1 v9 ((d.vers key).length + 1) (vals9 ++ [v])) (hblk : v9.ownBlock = vo.ownBlock ∨ ∃ k, w.heap.size ≤ k ∧ v9.ownBlock = some k) (hv : DB w' (Grown F w w') v l)
    (N : Nat) (av pv : Value) (c : Ac) (hN : w.heap.size ≤ N) (hmN : MapIs HC w' N (putV (fun _ => none) key (.agg #[xo, .bool xb])) 1)
    (hdev : DevAt w' D { fdOf d m with nb := .map (some N), nl := m.lv, acc := av, past := pv }) (hra : w'.ownsRow 0 95 3 av (d.acc.length + 1) (d.acc.flatMap acC ++ acC c)) (hrp : w'.ownsRow 0 82 2 pv (d.past.length + 1) (pastC vals ++ [.map (some N), m.lv]))
    (hc : Chg (fun k => Smal D A m.av m.pv k ∨ k = m.B ∨ k = m.V ∨ vo.ownBlock = some k) w w') (hav : av.ownBlock = m.av.ownBlock ∨ ∃ k, w.heap.size ≤ k ∧ av.ownBlock = some k) (hpv : pv.ownBlock = m.pv.ownBlock ∨ ∃ k, w.heap.size ≤ k ∧ pv.ownBlock = some k) :
    Inv w' D (Grown F w w') { d with blobs := updO d.blobs key (some l), n := n', vers := updL d.vers key (d.vers key ++ [l]), acc := d.acc ++ [c], past := d.past ++ [⟨updO (fun _ => none) key (some (d.blobs key)), 1, d.log⟩] } := by
  obtain ⟨_, hm0, _⟩ := hI.blobs
  obtain ⟨_, _, hm1, _⟩ := hI.vers
  obtain ⟨es0, clk0, hh0⟩ := map_heap hm0
  obtain ⟨es1, clk1, hh1⟩ := map_heap hm1
  have hcell : ∀ k c t fr, w.heap[k]? = some (.cells c t fr) → (t ≠ 84 ∧ t ≠ 86 ∧ t ≠ 95 ∧ t ≠ 82) → (t ≠ 29 ∨ vo.ownBlock ≠ some k) → ¬ (Smal D A m.av m.pv k ∨ k = m.B ∨ k = m.V ∨ vo.ownBlock = some k) := by
    intro k c t fr hk ht ht2 hS
    rcases hS with h | rfl | rfl | h
    · exact smal_cells hI.dev hA hI.acc.1 hrp0 hk ht h
    · rw [hk] at hh0; cases hh0
    · rw [hk] at hh1; cases hh1
    · rcases ht2 with h3 | h3
      · obtain ⟨_, _, h4⟩ := own_heap hvals h
        rw [hk] at h4
        injection h4 with h4
        injection h4 with _ h4
        exact h3 h4
      · exact h3 h
  have hsb : ∀ k, isBytes w k → ¬ (Smal D A m.av m.pv k ∨ k = m.B ∨ k = m.V ∨ vo.ownBlock = some k) := fun k ⟨cs, fr, hk⟩ => hcell k _ _ _ hk (by decide) (Or.inl (by decide))
  have hsm : ∀ k es clk, w.heap[k]? = some (.map es clk) → (Smal D A m.av m.pv k ∨ k = m.B ∨ k = m.V ∨ vo.ownBlock = some k) → k = m.B ∨ k = m.V := by
    intro k es clk hk hS
    rcases hS with h | h | h | h
    · exact absurd h (smal_map hI.dev hA hI.acc.1 hrp0 hk)
    · exact Or.inl h
    · exact Or.inr h
    · obtain ⟨_, _, h4⟩ := own_heap hvals h
      rw [hk] at h4
      cases h4
  refine ⟨⟨m.B, m.V, m.lv, m.cv, av, pv, .map (some N), m.lv⟩, hdev, grown_old _ hI.fD, grown_old _ hI.fB, grown_old _ hI.fV, Or.inl rfl, Or.inr rfl, hI.bv, ?_, ?_, ?_, ?_, ?_, ?_⟩
  · exact MapB.put hmB hrB hc hsb grown_old hv
  · refine MapV.put h1 h2 hvo hmV hown hvals hv9 hblk hv hc (fun k c fr hk hS => ?_) hsb grown_old (fun k h1 h2 => Or.inr ⟨h1, h2⟩)
    exact Classical.byContradiction fun h => hcell k _ _ _ hk (by decide) (Or.inr h) hS
  · exact (hI.log.chg hc hsb).mono grown_old
  · exact hI.cho.chg hc (fun k c fr hk => hcell k _ _ _ hk (by decide) (Or.inl (by decide))) grown_old
  · refine ⟨?_, fun k hk => ?_⟩
    · show w'.ownsRow 0 95 3 av (d.acc ++ [c]).length ((d.acc ++ [c]).flatMap acC)
      rw [flatMap_snoc, List.length_append]
      exact hra
    · rcases hav with h | ⟨j, hj, h⟩
      · exact Or.inl (hI.acc.2 k (h ▸ hk))
      · rw [h] at hk
        injection hk with hk
        subst hk
        obtain ⟨_, _, hh⟩ := own_heap hra h
        exact Or.inr ⟨hj, (Array.getElem?_eq_some_iff.1 hh).1⟩
  · refine ⟨vals ++ [(.map (some N), m.lv)], by simp [hvl], ?_, fun i hi hi' => ?_, fun k hk => ?_⟩
    · rw [flatMap_snoc]
      show w'.ownsRow 0 82 2 pv (d.past ++ [_]).length _
      rw [List.length_append]
      exact hrp
    · rcases getElem_snoc d.past ⟨updO (fun _ => none) key (some (d.blobs key)), 1, d.log⟩ i hi with ⟨a1, e1⟩ | ⟨a1, e1⟩
      · have a2 : i < vals.length := by omega
        have e2 : (vals ++ [(.map (some N), m.lv)])[i] = vals[i] := List.getElem_append_left a2
        show PcAt _ _ _ (vals ++ [(.map (some N), m.lv)])[i].1 (vals ++ [(.map (some N), m.lv)])[i].2 (d.past ++ [_])[i]
        rw [e1, e2]
        exact (hpc i a1 a2).chg hc hsm hsb grown_old
      · have a2 : i = vals.length := by omega
        have e2 : (vals ++ [(.map (some N), m.lv)])[i] = (.map (some N), m.lv) := by subst a2; simp
        show PcAt _ _ _ (vals ++ [(.map (some N), m.lv)])[i].1 (vals ++ [(.map (some N), m.lv)])[i].2 (d.past ++ [_])[i]
        rw [e1, e2]
        refine ⟨N, rfl, Or.inr ⟨hN, hmN.lt⟩, ?_, ⟨_, hmN, fun q' => ?_⟩, (hI.log.chg hc hsb).mono grown_old⟩
        · rintro (h | h)
          · dsimp only at h; omega
          · dsimp only at h; omega
        · by_cases hq : q' = key
          · subst hq
            simp only [putV, updO, if_true]
            have hR := hrB q'
            refine ⟨xo, ?_, ?_⟩
            · rw [← hxb, hR.none]
            · cases e : d.blobs q' with
              | none =>
                rw [e] at hR
                have : mB q' = none := by cases h : mB q' with | none => rfl | some a => rw [h] at hR; exact hR.elim
                rw [this] at hxo
                subst hxo
                exact DB.nil _ _
              | some b =>
                rw [e] at hR
                obtain ⟨a, ha, hd⟩ := hR.some
                rw [ha] at hxo
                simp only [Option.getD_some] at hxo
                subst hxo
                exact (hd.chg hc hsb).mono grown_old
          · simp only [putV, updO, if_neg hq]
            trivial
    · rcases hpv with h | ⟨j, hj, h⟩
      · exact Or.inl (hpF k (h ▸ hk))
      · rw [h] at hk
        injection hk with hk
        subst hk
        obtain ⟨_, _, hh⟩ := own_heap hrp h
        exact Or.inr ⟨hj, (Array.getElem?_eq_some_iff.1 hh).1⟩
end Go.Proofs.Ytcbglojjbgenlaa
