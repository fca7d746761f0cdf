/- A device behind an access. -/
import Derived.Test.YtcbglojjbgenlaaMedQ
namespace Go.Proofs.Ytcbglojjbgenlaa
open Go.RowKit Go.MapL Go.ChangeMaps Go.MapKept
set_option linter.unusedSimpArgs false
set_option linter.unusedVariables false

def Grown (F : Nat → Prop) (w w' : World) : Nat → Prop := fun k => F k ∨ (w.heap.size ≤ k ∧ k < w'.heap.size)
theorem grown_old {F : Nat → Prop} {w w' : World} : ∀ k, F k → Grown F w w' k := fun _ h => Or.inl h
theorem own_heap {w : World} {base n size : Nat} {e : TypeId} {v : Value} {xs : List Value} (h : w.ownsRow base e size v n xs) {k : Nat} (hk : v.ownBlock = some k) : ∃ c fr, w.heap[k]? = some (.cells c e fr) := by
  rcases h.2 with ⟨rfl, _⟩ | ⟨g, cap, cur, rfl, _, hg, _⟩
  · simp [Value.ownBlock] at hk
  · simp only [Value.ownBlock, Option.some.injEq] at hk
    subst hk
    exact ⟨_, _, hg⟩
/-- the blocks that an access writes, but for maps and version rows -/
def Smal (D A : Nat) (av pv : Value) : Nat → Prop := fun k => k = D ∨ k = A ∨ av.ownBlock = some k ∨ pv.ownBlock = some k
section
variable {w : World} {D A : Nat} {f : Fd} {kind n cnt : Int} {q tag : H32} {da ks av pv : Value} {na np : Nat} {ca cp : List Value}
theorem smal_type (hD : DevAt w D f) (hA : DeedAt w A kind q da ks n cnt tag) (hra : w.ownsRow 0 95 3 av na ca) (hrp : w.ownsRow 0 82 2 pv np cp) {k : Nat} (hk : Smal D A av pv k) :
    ∃ c t fr, w.heap[k]? = some (.cells c t fr) ∧ (t = 84 ∨ t = 86 ∨ t = 95 ∨ t = 82) := by
  rcases hk with rfl | rfl | h | h
  · exact ⟨_, _, _, hD, Or.inl rfl⟩
  · exact ⟨_, _, _, hA, Or.inr (Or.inl rfl)⟩
  · obtain ⟨c, fr, h⟩ := own_heap hra h
    exact ⟨c, _, fr, h, Or.inr (Or.inr (Or.inl rfl))⟩
  · obtain ⟨c, fr, h⟩ := own_heap hrp h
    exact ⟨c, _, fr, h, Or.inr (Or.inr (Or.inr rfl))⟩
theorem smal_cells (hD : DevAt w D f) (hA : DeedAt w A kind q da ks n cnt tag) (hra : w.ownsRow 0 95 3 av na ca) (hrp : w.ownsRow 0 82 2 pv np cp) {k : Nat} {c : Array Value} {t : TypeId} {fr : Nat × Nat} (hk : w.heap[k]? = some (.cells c t fr))
    (ht : t ≠ 84 ∧ t ≠ 86 ∧ t ≠ 95 ∧ t ≠ 82) : ¬ Smal D A av pv k := fun hS => by
  obtain ⟨c', t', fr', h1, h2⟩ := smal_type hD hA hra hrp hS
  rw [hk] at h1
  injection h1 with h1
  injection h1 with _ h1
  subst h1
  rcases h2 with h | h | h | h
  · exact ht.1 h
  · exact ht.2.1 h
  · exact ht.2.2.1 h
  · exact ht.2.2.2 h
theorem smal_map (hD : DevAt w D f) (hA : DeedAt w A kind q da ks n cnt tag) (hra : w.ownsRow 0 95 3 av na ca) (hrp : w.ownsRow 0 82 2 pv np cp) {k : Nat} {es : Array MapEntry} {clk : Nat} (hk : w.heap[k]? = some (.map es clk)) : ¬ Smal D A av pv k := fun hS => by
  obtain ⟨c', t', fr', h1, h2⟩ := smal_type hD hA hra hrp hS
  rw [hk] at h1
  cases h1
theorem map_heap {B n : Nat} {m : H32 → Option Value} (h : MapIs HC w B m n) : ∃ es clk, w.heap[B]? = some (.map es clk) := by
  obtain ⟨es, clk, hb, _⟩ := h
  exact ⟨es, clk, hb⟩
end
/-- the rows of past changes, as cells -/
def pastC (vals : List (Value × Value)) : List Value := vals.flatMap fun x => [x.1, x.2]

/-- A device behind an access that changed neither blobs nor log. -/
theorem inv_same {w w' : World} {D A : Nat} {F : Nat → Prop} {d : Dv} {m : Mm} (hI : Core w D F (fun k => k = m.B ∨ k = m.V) d m) {kind n cnt : Int} {q tag : H32} {da ks : Value} (hA : DeedAt w A kind q da ks n cnt tag)
    (vals : List (Value × Value)) (hvl : vals.length = d.past.length) (hrp0 : w.ownsRow 0 82 2 m.pv d.past.length (pastC vals)) (hpc : ∀ i (h : i < d.past.length) (h' : i < vals.length), PcAt w F (fun k => k = m.B ∨ k = m.V) vals[i].1 vals[i].2 d.past[i]) (hpF : ∀ k, m.pv.ownBlock = some k → F k)
    (nb nl av pv : Value) (c : Ac)
    (hdev : DevAt w' D { fdOf d m with nb := nb, nl := nl, acc := av, past := pv }) (hra : w'.ownsRow 0 95 3 av (d.acc.length + 1) (d.acc.flatMap acC ++ acC c)) (hrp : w'.ownsRow 0 82 2 pv d.past.length (pastC vals))
    (hc : Chg (Smal D A m.av m.pv) w w') (hav : av.ownBlock = m.av.ownBlock ∨ ∃ k, w.heap.size ≤ k ∧ av.ownBlock = some k) (hpv : pv.ownBlock = m.pv.ownBlock ∨ ∃ k, w.heap.size ≤ k ∧ pv.ownBlock = some k) :
    Inv w' D (Grown F w w') { d with acc := d.acc ++ [c] } := by
  have hsb : ∀ k, isBytes w k → ¬ Smal D A m.av m.pv k := fun k ⟨cs, fr, hk⟩ => smal_cells hI.dev hA hI.acc.1 hrp0 hk (by decide)
  have hsm : ∀ k es clk, w.heap[k]? = some (.map es clk) → ¬ Smal D A m.av m.pv k := fun k es clk hk => smal_map hI.dev hA hI.acc.1 hrp0 hk
  have hB : ¬ Smal D A m.av m.pv m.B := by
    obtain ⟨mv, hm, _⟩ := hI.blobs
    obtain ⟨es, clk, h⟩ := map_heap hm
    exact hsm _ _ _ h
  have hV : ¬ Smal D A m.av m.pv m.V := by
    obtain ⟨mv, _, hm, _⟩ := hI.vers
    obtain ⟨es, clk, h⟩ := map_heap hm
    exact hsm _ _ _ h
  refine ⟨⟨m.B, m.V, m.lv, m.cv, av, pv, nb, nl⟩, hdev, grown_old _ hI.fD, grown_old _ hI.fB, grown_old _ hI.fV, Or.inl rfl, Or.inr rfl, hI.bv, ?_, ?_, ?_, ?_, ?_, ?_⟩
  · exact hI.blobs.chg hc hB hsb grown_old
  · exact hI.vers.chg hc hV (fun k c fr hk => smal_cells hI.dev hA hI.acc.1 hrp0 hk (by decide)) hsb grown_old
  · exact (hI.log.chg hc hsb).mono grown_old
  · exact hI.cho.chg hc (fun k c fr hk => smal_cells hI.dev hA hI.acc.1 hrp0 hk (by decide)) grown_old
  · refine ⟨?_, fun k hk => ?_⟩
    · show w'.ownsRow 0 95 3 av (d.acc ++ [c]).length ((d.acc ++ [c]).flatMap acC)
      rw [flatMap_snoc, List.length_append]
      exact hra
    · rcases hav with h | ⟨j, hj, h⟩
      · exact Or.inl (hI.acc.2 k (h ▸ hk))
      · rw [h] at hk
        injection hk with hk
        subst hk
        obtain ⟨_, _, hh⟩ := own_heap hra h
        exact Or.inr ⟨hj, (Array.getElem?_eq_some_iff.1 hh).1⟩
  · refine ⟨vals, hvl, hrp, fun i hi hi' => ?_, fun k hk => ?_⟩
    · exact (hpc i hi hi').chg hc (fun k es clk hk hS => absurd hS (hsm k es clk hk)) hsb grown_old
    · rcases hpv with h | ⟨j, hj, h⟩
      · exact Or.inl (hpF k (h ▸ hk))
      · rw [h] at hk
        injection hk with hk
        subst hk
        obtain ⟨_, _, hh⟩ := own_heap hrp h
        exact Or.inr ⟨hj, (Array.getElem?_eq_some_iff.1 hh).1⟩

theorem getElem_snoc {α : Type} (l : List α) (x : α) (i : Nat) (h : i < (l ++ [x]).length) : (∃ h' : i < l.length, (l ++ [x])[i] = l[i]) ∨ (i = l.length ∧ (l ++ [x])[i] = x) := by
  by_cases hi : i < l.length
  · exact Or.inl ⟨hi, List.getElem_append_left hi⟩
  · refine Or.inr ⟨by simp at h; omega, ?_⟩
    have : i = l.length := by simp at h; omega
    subst this
    simp

/-- .. that changed the log alone. -/
theorem inv_log {w w' : World} {D A : Nat} {F : Nat → Prop} {d : Dv} {m : Mm} (hI : Core w D F (fun k => k = m.B ∨ k = m.V) d m) {kind n cnt : Int} {q tag : H32} {da ks : Value} (hA : DeedAt w A kind q da ks n cnt tag)
    (vals : List (Value × Value)) (hvl : vals.length = d.past.length) (hrp0 : w.ownsRow 0 82 2 m.pv d.past.length (pastC vals)) (hpc : ∀ i (h : i < d.past.length) (h' : i < vals.length), PcAt w F (fun k => k = m.B ∨ k = m.V) vals[i].1 vals[i].2 d.past[i]) (hpF : ∀ k, m.pv.ownBlock = some k → F k)
    (N : Nat) (lv av pv : Value) (c : Ac) (l' : Bs) (hN : w.heap.size ≤ N) (hmN : MapIs HC w' N (fun _ => none) 0)
    (hdev : DevAt w' D { fdOf d m with log := lv, nb := .map (some N), nl := m.lv, acc := av, past := pv }) (hlv : DB w' (Grown F w w') lv l') (hra : w'.ownsRow 0 95 3 av (d.acc.length + 1) (d.acc.flatMap acC ++ acC c)) (hrp : w'.ownsRow 0 82 2 pv (d.past.length + 1) (pastC vals ++ [.map (some N), m.lv]))
    (hc : Chg (Smal D A m.av m.pv) w w') (hav : av.ownBlock = m.av.ownBlock ∨ ∃ k, w.heap.size ≤ k ∧ av.ownBlock = some k) (hpv : pv.ownBlock = m.pv.ownBlock ∨ ∃ k, w.heap.size ≤ k ∧ pv.ownBlock = some k) :
    Inv w' D (Grown F w w') { d with log := l', acc := d.acc ++ [c], past := d.past ++ [⟨fun _ => none, 0, d.log⟩] } := by
  have hsb : ∀ k, isBytes w k → ¬ Smal D A m.av m.pv k := fun k ⟨cs, fr, hk⟩ => smal_cells hI.dev hA hI.acc.1 hrp0 hk (by decide)
  have hsm : ∀ k es clk, w.heap[k]? = some (.map es clk) → ¬ Smal D A m.av m.pv k := fun k es clk hk => smal_map hI.dev hA hI.acc.1 hrp0 hk
  obtain ⟨mv, hmB, _⟩ := hI.blobs
  obtain ⟨mv2, _, hmV, _⟩ := hI.vers
  have hBl := hmB.lt
  have hVl := hmV.lt
  have hB : ¬ Smal D A m.av m.pv m.B := by
    obtain ⟨es, clk, h⟩ := map_heap hmB
    exact hsm _ _ _ h
  have hV : ¬ Smal D A m.av m.pv m.V := by
    obtain ⟨es, clk, h⟩ := map_heap hmV
    exact hsm _ _ _ h
  refine ⟨⟨m.B, m.V, lv, m.cv, av, pv, .map (some N), m.lv⟩, hdev, grown_old _ hI.fD, grown_old _ hI.fB, grown_old _ hI.fV, Or.inl rfl, Or.inr rfl, hI.bv, ?_, ?_, hlv, ?_, ?_, ?_⟩
  · exact hI.blobs.chg hc hB hsb grown_old
  · exact hI.vers.chg hc hV (fun k c fr hk => smal_cells hI.dev hA hI.acc.1 hrp0 hk (by decide)) hsb grown_old
  · exact hI.cho.chg hc (fun k c fr hk => smal_cells hI.dev hA hI.acc.1 hrp0 hk (by decide)) grown_old
  · refine ⟨?_, fun k hk => ?_⟩
    · show w'.ownsRow 0 95 3 av (d.acc ++ [c]).length ((d.acc ++ [c]).flatMap acC)
      rw [flatMap_snoc, List.length_append]
      exact hra
    · rcases hav with h | ⟨j, hj, h⟩
      · exact Or.inl (hI.acc.2 k (h ▸ hk))
      · rw [h] at hk
        injection hk with hk
        subst hk
        obtain ⟨_, _, hh⟩ := own_heap hra h
        exact Or.inr ⟨hj, (Array.getElem?_eq_some_iff.1 hh).1⟩
  · refine ⟨vals ++ [(.map (some N), m.lv)], by simp [hvl], ?_, fun i hi hi' => ?_, fun k hk => ?_⟩
    · rw [flatMap_snoc]
      show w'.ownsRow 0 82 2 pv (d.past ++ [_]).length _
      rw [List.length_append]
      exact hrp
    · rcases getElem_snoc d.past ⟨fun _ => none, 0, d.log⟩ i hi with ⟨h1, e1⟩ | ⟨h1, e1⟩
      · have h2 : i < vals.length := by omega
        have e2 : (vals ++ [(.map (some N), m.lv)])[i] = vals[i] := List.getElem_append_left h2
        show PcAt _ _ _ (vals ++ [(.map (some N), m.lv)])[i].1 (vals ++ [(.map (some N), m.lv)])[i].2 (d.past ++ [_])[i]
        rw [e1, e2]
        exact (hpc i h1 h2).chg hc (fun k es clk hk hS => absurd hS (hsm k es clk hk)) hsb grown_old
      · have h2 : i = vals.length := by omega
        have e2 : (vals ++ [(.map (some N), m.lv)])[i] = (.map (some N), m.lv) := by subst h2; simp
        show PcAt _ _ _ (vals ++ [(.map (some N), m.lv)])[i].1 (vals ++ [(.map (some N), m.lv)])[i].2 (d.past ++ [_])[i]
        rw [e1, e2]
        refine ⟨N, rfl, Or.inr ⟨hN, hmN.lt⟩, ?_, ⟨_, hmN, fun q => trivial⟩, (hI.log.chg hc hsb).mono grown_old⟩
        rintro (h | h)
        · dsimp only at h; omega
        · dsimp only at h; omega
    · rcases hpv with h | ⟨j, hj, h⟩
      · exact Or.inl (hpF k (h ▸ hk))
      · rw [h] at hk
        injection hk with hk
        subst hk
        obtain ⟨_, _, hh⟩ := own_heap hrp h
        exact Or.inr ⟨hj, (Array.getElem?_eq_some_iff.1 hh).1⟩
end Go.Proofs.Ytcbglojjbgenlaa
