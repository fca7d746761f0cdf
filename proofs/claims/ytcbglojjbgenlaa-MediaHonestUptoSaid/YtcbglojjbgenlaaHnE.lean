/- A device's call by run: from the access to the call's end; an awake device seen as a plain thing. A plain map as two lists: its keys and what they have. An op of a script, as its cells. -/
import Derived.Test.YtcbglojjbgenlaaHnD
namespace Go.Proofs.Ytcbglojjbgenlaa
open Go.RowKit Go.MapL Go.ChangeMaps Go.MapKept
set_option linter.unusedSimpArgs false
set_option linter.unusedVariables false

/-- writes outside a device leave it as it is -/
theorem Inv.away {w w' : World} {D : Nat} {F S : Nat → Prop} {d : Dv} (h : Inv w D F d) (hc : Chg S w w') (hS : ∀ k, S k → k < w.heap.size → ¬ F k ∧ ∃ c t fr, w.heap[k]? = some (.cells c t fr) ∧ t ≠ 5) : Inv w' D F d := by
  obtain ⟨m, hI⟩ := h
  have hF : ∀ k, F k → k < w.heap.size → ¬ S k := fun k h1 h2 h3 => (hS k h3 h2).1 h1
  have hlt : ∀ k o, w.heap[k]? = some o → k < w.heap.size := fun k o h => (Array.getElem?_eq_some_iff.1 h).1
  have hb : ∀ k, isBytes w k → ¬ S k := fun k ⟨cs, fr, hk⟩ h => by
    obtain ⟨_, c, t, fr', e, ht⟩ := hS k h (hlt _ _ hk)
    rw [hk] at e
    injection e with e
    injection e with _ e
    exact ht e.symm
  have hm : ∀ k es clk, w.heap[k]? = some (.map es clk) → ¬ S k := fun k es clk hk h => by
    obtain ⟨_, c, t, fr', e, ht⟩ := hS k h (hlt _ _ hk)
    rw [hk] at e
    cases e
  obtain ⟨mB, hmB, _⟩ := hI.blobs
  obtain ⟨mV, nV, hmV, hV1, hV2⟩ := hI.vers
  obtain ⟨es0, clk0, hh0⟩ := map_heap hmB
  obtain ⟨es1, clk1, hh1⟩ := map_heap hmV
  obtain ⟨vals, h1, h2, h3, h4⟩ := hI.past
  have hr : ∀ {e : TypeId} {size : Nat} {v : Value} {n : Nat} {xs : List Value}, w.ownsRow 0 e size v n xs → (∀ k, v.ownBlock = some k → F k) → w'.ownsRow 0 e size v n xs := fun hv he => own_chg hv hc (fun k hk => by
    obtain ⟨_, _, hh⟩ := own_heap hv hk
    exact hF k (he k hk) (hlt _ _ hh))
  refine ⟨m, dev_chg hI.dev hc (hF _ hI.fD (hlt _ _ hI.dev)), hI.fD, hI.fB, hI.fV, hI.xB, hI.xV, hI.bv, hI.blobs.chg hc (hm _ _ _ hh0) hb (fun _ h => h), ⟨mV, nV, map_chg hmV hc (hm _ _ _ hh1), fun q => ?_, hV2⟩,
    hI.log.chg hc hb, ?_, ⟨hr hI.acc.1 hI.acc.2, hI.acc.2⟩, ⟨vals, h1, hr h2 h4, fun i hi hi' => (h3 i hi hi').chg hc (fun k es clk hk hS => absurd hS (hm k es clk hk)) hb (fun _ h => h), h4⟩⟩
  · rcases hV1 q with h | ⟨v, e, h⟩
    · exact .inl h
    · refine .inr ⟨v, e, h.chg hc (fun k hk => ?_) hb (fun _ h => h)⟩
      obtain ⟨vl, ho, _, hf⟩ := h
      obtain ⟨_, _, hh⟩ := own_heap ho hk
      exact hF k (hf k hk) (hlt _ _ hh)
  · obtain ⟨⟨A, c, e, hrr, hh1⟩, hk⟩ := hI.cho
    rw [e] at hk ⊢
    refine ⟨⟨A, c, rfl, fun j hj => ?_, hh1⟩, fun k hv => ?_⟩
    · obtain ⟨b, off, e, hcell⟩ := hrr j hj
      subst e
      obtain ⟨hf, cs, fr, hb⟩ := hk b rfl
      refine ⟨b, off, rfl, ?_⟩
      rw [World.cell?_of_block (hc.block b (World.block_lt_of_cell? w _ hcell) (hF _ hf (hlt _ _ hb)))]
      exact hcell
    · obtain ⟨hf, cs, fr, hb⟩ := hk k hv
      exact ⟨hf, cs, fr, (hc.block k (hlt _ _ hb) (hF _ hf (hlt _ _ hb))).trans hb⟩
theorem Awake.away {w w' : World} {D : Nat} {F S : Nat → Prop} {d : Dv} (h : Awake w D F d) (hc : Chg S w w') (hS : ∀ k, S k → k < w.heap.size → ¬ F k ∧ ∃ c t fr, w.heap[k]? = some (.cells c t fr) ∧ t ≠ 5) : Awake w' D F d :=
  ⟨h.inv.away hc hS, fun k hk => Nat.lt_of_lt_of_le (h.fit k hk) hc.size, h.cho, h.few, h.low⟩

/-- the device behind a call -/
def Live (w w' : World) (D : Nat) (F : Nat → Prop) (d' : Dv) : Prop := Awake w' D (Grown F w w') d' ∧ Byk w w' ∧ Chg F w w'
theorem Live.post {w w1 w' : World} {D : Nat} {F : Nat → Prop} {d' : Dv} (h : Live w w1 D F d') (hb : Below w1.heap.size w1 w') (hF : ∀ k, F k → k < w.heap.size) : Live w w' D F d' := by
  refine ⟨(h.1.below hb).mono (fun k hk => ?_) (fun k hk => ?_), h.2.1.trans (Byk.below hb), h.2.2.trans (Below.chg F hb)⟩
  · rcases hk with hk | hk
    · exact Or.inl hk
    · exact Or.inr ⟨hk.1, by have := hb.size; omega⟩
  · rcases hk with hk | hk
    · have := hF k hk; have := h.2.1.size; have := hb.size; omega
    · exact hk.2
theorem Live.pre {w w0 w1 : World} {D : Nat} {F : Nat → Prop} {d' : Dv} (h : Live w0 w1 D F d') (hb : Below w.heap.size w w0) (hF : ∀ k, F k → k < w.heap.size) : Live w w1 D F d' := by
  refine ⟨h.1.mono (fun k hk => ?_) (fun k hk => ?_), (Byk.below hb).trans h.2.1, (Below.chg F hb).trans h.2.2⟩
  · rcases hk with hk | hk
    · exact Or.inl hk
    · exact Or.inr ⟨by have := hb.size; have := hk.1; omega, hk.2⟩
  · rcases hk with hk | hk
    · have := hF k hk; have := h.2.1.size; have := hb.size; omega
    · exact hk.2

theorem RunC.mono {w : World} {D : Nat} {cells : List Value} {r : Int} {R R' : Tl → World → Prop} (h : RunC w D cells r R) (hi : ∀ t w', R t w' → R' t w') : RunC w D cells r R' :=
  Calls.mono h (by rintro e w' ⟨t, e1, h1⟩; exact ⟨t, e1, hi t w' h1⟩)

theorem runW_facts (w : World) (kind n cnt : Int) (q tag : H32) (da ks : Value) : Below w.heap.size w (runW w (deedC kind q da ks n cnt tag)) ∧ DeedAt (runW w (deedC kind q da ks n cnt tag)) w.heap.size kind q da ks n cnt tag ∧
    (runW w (deedC kind q da ks n cnt tag)).heap[w.heap.size + 1]? = some (.cells Try.zeroCells86 86 (0, 0)) ∧ (runW w (deedC kind q da ks n cnt tag)).heap.size = w.heap.size + 2 := by
  unfold runW
  refine ⟨by (repeat (first | exact Below.refl _ _ | refine bg_al ?_ | refine bg_gr ?_ | refine bg_drn ?_ | refine bg_dr ?_ | assumption)), ?_, ?_, by simp⟩
  · unfold DeedAt
    rw [Below.heap_alloc _ _ _ (by simp), heap_alloc_last]
  · have : (w.alloc (.cells (deedC kind q da ks n cnt tag).toArray 86)).heap.size = w.heap.size + 1 := by simp
    rw [← this, heap_alloc_last]

theorem live_run {w W w2 : World} {D : Nat} {F : Nat → Prop} {d' : Dv} {c c' : Array Value} {fr : Nat × Nat} (hF : ∀ k, F k → k < w.heap.size) (hW : Below w.heap.size w W) (hWs : W.heap.size = w.heap.size + 2) (hA2 : Awake w2 D (Grown F W w2) d')
    (hc2 : Chg (fun k => (F k ∨ k = w.heap.size) ∧ ¬ isBytes W k) W w2) (hz2 : w2.heap[w.heap.size + 1]? = some (.cells c 86 fr)) : Live w (w2.setRow (w.heap.size + 1) c') D F d' := by
  have hby : Byk w (w2.setRow (w.heap.size + 1) c') := ((Byk.below hW).trans (Byk.of hc2 (fun k hk => hk.2))).trans (Byk.setRow hz2)
  refine ⟨(hA2.setRow hz2).mono (fun k hk => ?_) (fun k hk => ?_), hby, chg_run hW (Nat.le_refl _) (hc2.mono (fun k _ hk => hk.1))⟩
  · rcases hk with hk | hk
    · exact Or.inl hk
    · exact Or.inr ⟨by omega, by simpa [World.setRow] using hk.2⟩
  · rcases hk with hk | hk
    · have := hF k hk; have := hby.size; omega
    · exact hk.2

theorem run_gen_ok {w : World} {D : Nat} {F : Nat → Prop} {d : Dv} (h : Awake w D F d) (hdn : d.down = false) (kind n cnt : Int) (q tag : H32) (da ks : Value) (d' : Dv) (U : Tl → World → Prop)
    (hacc : ∀ W, Below w.heap.size w W → Awake W D F d → DeedAt W w.heap.size kind q da ks n cnt tag → Calls Try.prog 35 #[.pointer (some ⟨D, 0, none⟩), .pointer (some ⟨w.heap.size, 0, none⟩)] W fun e w' => e = .returned (.int .i64 0) ∧
      Awake w' D (Grown F W w') d' ∧ (∃ t, w'.heap[w.heap.size]? = some (.cells (tlC t).toArray 86 (0, 0)) ∧ U t w') ∧ Chg (fun k => (F k ∨ k = w.heap.size) ∧ ¬ isBytes W k) W w')
    (hU : ∀ t w2 w', U t w2 → Chg (fun k => ∃ c fr, w2.heap[k]? = some (.cells c 86 fr)) w2 w' → U t w') :
    RunC w D (deedC kind q da ks n cnt tag) 0 (fun t w' => Live w w' D F d' ∧ U t w') := by
  obtain ⟨f, hD, hfd⟩ := h.dev
  obtain ⟨hW, hdeed, hz, hWs⟩ := runW_facts w kind n cnt q tag da ks
  refine (run_ok D f kind n cnt q tag da ks w hD (hfd.trans hdn) (fun t w2 => Awake w2 D (Grown F (runW w (deedC kind q da ks n cnt tag)) w2) d' ∧ U t w2 ∧ Chg (fun k => (F k ∨ k = w.heap.size) ∧ ¬ isBytes (runW w (deedC kind q da ks n cnt tag)) k) (runW w (deedC kind q da ks n cnt tag)) w2) ?_).mono ?_
  · refine (hacc _ hW (h.below hW) hdeed).mono ?_
    rintro e w2 ⟨rfl, hA2, ⟨t, ht, hu⟩, hc2⟩
    refine ⟨rfl, t, ht, ?_, hA2, hu, hc2⟩
    rw [hc2.block _ (by omega) (fun hk => by
      rcases hk.1 with hk | hk
      · have := h.fit _ hk; omega
      · omega)]
    exact hz
  · rintro t w' ⟨w2, ⟨hA2, hu, hc2⟩, hz2, rfl⟩
    exact ⟨live_run h.fit hW hWs hA2 hc2 hz2, hU t w2 _ hu (setRow_chg (S := fun k => ∃ c fr, w2.heap[k]? = some (.cells c 86 fr)) (Chg.refl _ _) (Or.inl ⟨_, _, hz2⟩) _)⟩

theorem run_gen_no {w : World} {D : Nat} {F : Nat → Prop} {d : Dv} (h : Awake w D F d) (hdn : d.down = false) (kind n cnt : Int) (q tag : H32) (da ks : Value) (d' : Dv) (r : Int) (hr : r ≠ 0)
    (hacc : ∀ W, Below w.heap.size w W → Awake W D F d → DeedAt W w.heap.size kind q da ks n cnt tag → Calls Try.prog 35 #[.pointer (some ⟨D, 0, none⟩), .pointer (some ⟨w.heap.size, 0, none⟩)] W fun e w' => e = .returned (.int .i64 r) ∧
      Awake w' D (Grown F W w') d' ∧ DeedAt w' w.heap.size kind q da ks n cnt tag ∧ Chg (fun k => (F k ∨ k = w.heap.size) ∧ ¬ isBytes W k) W w') :
    RunC w D (deedC kind q da ks n cnt tag) r (fun t w' => Live w w' D F d' ∧ t = tl0) := by
  obtain ⟨f, hD, hfd⟩ := h.dev
  obtain ⟨hW, hdeed, hz, hWs⟩ := runW_facts w kind n cnt q tag da ks
  refine (run_no D f r hr kind n cnt q tag da ks w hD (hfd.trans hdn) (fun w2 => Awake w2 D (Grown F (runW w (deedC kind q da ks n cnt tag)) w2) d' ∧ Chg (fun k => (F k ∨ k = w.heap.size) ∧ ¬ isBytes (runW w (deedC kind q da ks n cnt tag)) k) (runW w (deedC kind q da ks n cnt tag)) w2) ?_).mono ?_
  · refine (hacc _ hW (h.below hW) hdeed).mono ?_
    rintro e w2 ⟨rfl, hA2, -, hc2⟩
    refine ⟨rfl, ?_, hA2, hc2⟩
    rw [hc2.block _ (by omega) (fun hk => by
      rcases hk.1 with hk | hk
      · have := h.fit _ hk; omega
      · omega)]
    exact hz
  · rintro t w' ⟨rfl, w2, ⟨hA2, hc2⟩, hz2, rfl⟩
    exact ⟨live_run h.fit hW hWs hA2 hc2 hz2, rfl⟩

/-- a device as a plain thing -/
structure Hn where
  slots : Int
  room : Int
  blobs : H32 → Option Bs
  n : Nat
  log : Bs
  cnt : Int
  tag : H32
def hnOf (d : Dv) : Hn := ⟨d.slots, d.room, d.blobs, d.n, d.log, d.cnt, d.tag⟩
structure Few (d : Dv) (k : Nat) : Prop where
  acc : d.acc.length ≤ k
  past : d.past.length ≤ k
  vers : ∀ q, (d.vers q).length ≤ k
def Plain (w : World) (D : Nat) (F : Nat → Prop) (s : Hn) (k : Nat) : Prop := ∃ d, Awake w D F d ∧ d.down = false ∧ hnOf d = s ∧ Few d k
def After (w w' : World) (D : Nat) (F : Nat → Prop) (s : Hn) (k : Nat) : Prop := Plain w' D (Grown F w w') s k ∧ Byk w w' ∧ Chg F w w'
theorem Few.more {d d' : Dv} {k : Nat} (h : Few d k) (ha : d'.acc.length ≤ d.acc.length + 1) (hp : d'.past.length ≤ d.past.length + 1) (hv : ∀ q, (d'.vers q).length ≤ (d.vers q).length + 1) : Few d' (k + 1) :=
  ⟨by have := h.acc; omega, by have := h.past; omega, fun q => by have := h.vers q; have := hv q; omega⟩
theorem Live.after {w w' : World} {D : Nat} {F : Nat → Prop} {d' : Dv} {s : Hn} {k : Nat} (h : Live w w' D F d') (hdn : d'.down = false) (hs : hnOf d' = s) (hf : Few d' k) : After w w' D F s k := ⟨⟨d', h.1, hdn, hs, hf⟩, h.2⟩
theorem Few.lt {d : Dv} {k : Nat} (h : Few d k) (hk : k < 1099511627776) : d.acc.length < 1099511627776 ∧ d.past.length < 1099511627776 ∧ ∀ q, (d.vers q).length < 1099511627776 :=
  ⟨by have := h.acc; omega, by have := h.past; omega, fun q => by have := h.vers q; omega⟩
theorem pastL_len (d d1 : Dv) : (pastL d d1).length ≤ d.past.length + 1 := by unfold pastL; split <;> simp
theorem pastK_len (d : Dv) (q : H32) (x : Option Bs) : (pastK d q x).length ≤ d.past.length + 1 := by unfold pastK; split <;> simp
theorem Plain.away {w w' : World} {D : Nat} {F S : Nat → Prop} {s : Hn} {k : Nat} (h : Plain w D F s k) (hc : Chg S w w') (hS : ∀ k, S k → k < w.heap.size → ¬ F k ∧ ∃ c t fr, w.heap[k]? = some (.cells c t fr) ∧ t ≠ 5) : Plain w' D F s k := by
  obtain ⟨d, h1, h2⟩ := h
  exact ⟨d, h1.away hc hS, h2⟩
theorem Plain.below {w w' : World} {D : Nat} {F : Nat → Prop} {s : Hn} {k : Nat} (h : Plain w D F s k) (hb : Below w.heap.size w w') : Plain w' D F s k := by
  obtain ⟨d, h1, h2⟩ := h
  exact ⟨d, h1.below hb, h2⟩
theorem Plain.fit {w : World} {D : Nat} {F : Nat → Prop} {s : Hn} {k : Nat} (h : Plain w D F s k) : ∀ j, F j → j < w.heap.size := by
  obtain ⟨d, h1, h2⟩ := h
  exact h1.fit
end Go.Proofs.Ytcbglojjbgenlaa
namespace Go.Proofs.Ytcbglojjbgenlaa
set_option linter.unusedSimpArgs false
set_option linter.unusedVariables false

structure KD (bl : H32 → Option Bs) (n : Nat) (keys : List H32) (datas : List Bs) : Prop where
  len : datas.length = keys.length
  n : n = keys.length
  nd : keys.Nodup
  at_ : ∀ i (h : i < keys.length) (h' : i < datas.length), bl keys[i] = some datas[i]
  no : ∀ q, q ∉ keys → bl q = none
  small : ∀ l ∈ datas, l.length ≤ 1024

theorem nodup_inj {α : Type} {l : List α} (h : l.Nodup) {i j : Nat} (hi : i < l.length) (hj : j < l.length) (e : l[i] = l[j]) : i = j := by
  rcases Nat.lt_trichotomy i j with h1 | h1 | h1
  · exact absurd e ((List.pairwise_iff_getElem.1 h) i j hi hj h1)
  · exact h1
  · exact absurd e.symm ((List.pairwise_iff_getElem.1 h) j i hj hi h1)
theorem KD.empty {bl : H32 → Option Bs} : KD (fun _ => none) 0 [] [] := ⟨rfl, rfl, List.nodup_nil, fun i h => by simp at h, fun _ _ => rfl, fun l h => by simp at h⟩
theorem KD.iff {bl : H32 → Option Bs} {n : Nat} {keys : List H32} {datas : List Bs} (h : KD bl n keys datas) (q : H32) : (bl q).isSome = true ↔ q ∈ keys := by
  constructor
  · intro hq
    apply Classical.byContradiction
    intro hn
    rw [h.no q hn] at hq
    simp at hq
  · intro hq
    obtain ⟨i, hi, rfl⟩ := List.mem_iff_getElem.1 hq
    rw [h.at_ i hi (by rw [h.len]; exact hi)]
    rfl
theorem KD.put {bl : H32 → Option Bs} {n : Nat} {keys : List H32} {datas : List Bs} (h : KD bl n keys datas) (q : H32) (hq : q ∉ keys) (l : Bs) (hl : l.length ≤ 1024) : KD (updO bl q (some l)) (n + 1) (keys ++ [q]) (datas ++ [l]) := by
  refine ⟨by simp [h.len], by simp [h.n], ?_, ?_, ?_, ?_⟩
  · rw [List.nodup_append]
    exact ⟨h.nd, by simp, fun a ha b hb => by simp at hb; subst hb; rintro rfl; exact hq ha⟩
  · intro i hi hi'
    by_cases hk : i < keys.length
    · rw [List.getElem_append_left hk, List.getElem_append_left (by rw [h.len]; exact hk)]
      unfold updO
      rw [if_neg (show ¬ keys[i] = q from fun e => hq (e ▸ List.getElem_mem hk))]
      exact h.at_ i hk _
    · have : i = keys.length := by simp at hi; omega
      subst this
      rw [List.getElem_append_right (Nat.le_refl _), List.getElem_append_right (by rw [h.len]; exact Nat.le_refl _)]
      simp [updO, h.len]
  · intro q' hq'
    simp at hq'
    unfold updO
    rw [if_neg hq'.2]
    exact h.no q' hq'.1
  · intro l' hl'
    rcases List.mem_append.1 hl' with h' | h'
    · exact h.small l' h'
    · simp at h'; subst h'; exact hl
theorem KD.set {bl : H32 → Option Bs} {n : Nat} {keys : List H32} {datas : List Bs} (h : KD bl n keys datas) (i : Nat) (hi : i < keys.length) (l : Bs) (hl : l.length ≤ 1024) : KD (updO bl keys[i] (some l)) n keys (datas.set i l) := by
  refine ⟨by simp [h.len], h.n, h.nd, ?_, ?_, ?_⟩
  · intro j hj hj'
    unfold updO
    by_cases e : j = i
    · subst e
      simp
    · rw [if_neg (show ¬ keys[j] = keys[i] from fun e' => e (nodup_inj h.nd hj hi e')), List.getElem_set_ne (fun e' => e e'.symm)]
      exact h.at_ j hj (by rw [h.len]; exact hj)
  · intro q hq
    unfold updO
    rw [if_neg (show ¬ q = keys[i] from fun e => hq (e ▸ List.getElem_mem hi))]
    exact h.no q hq
  · intro l' hl'
    rcases List.mem_or_eq_of_mem_set hl' with h' | h'
    · exact h.small l' h'
    · subst h'; exact hl
theorem getElem_cut {α : Type} (l : List α) (i j : Nat) (hi : i < l.length) (hj : j < (l.take i ++ l.drop (i + 1)).length) : ∃ (k : Nat) (hk : k < l.length), k ≠ i ∧ (l.take i ++ l.drop (i + 1))[j] = l[k] ∧ k = (if j < i then j else j + 1) := by
  have hl : (l.take i).length = i := by simp; omega
  by_cases h : j < i
  · refine ⟨j, by omega, by omega, ?_, by rw [if_pos h]⟩
    rw [List.getElem_append_left (by omega), List.getElem_take]
  · have hj2 : j + 1 < l.length := by simp at hj; omega
    refine ⟨j + 1, hj2, by omega, ?_, by rw [if_neg h]⟩
    rw [List.getElem_append_right (by omega), List.getElem_drop]
    congr 1
    omega
theorem KD.del {bl : H32 → Option Bs} {n : Nat} {keys : List H32} {datas : List Bs} (h : KD bl n keys datas) (i : Nat) (hi : i < keys.length) : KD (updO bl keys[i] none) (n - 1) (keys.take i ++ keys.drop (i + 1)) (datas.take i ++ datas.drop (i + 1)) := by
  have hdl := h.len
  have hsub : (keys.take i ++ keys.drop (i + 1)).Sublist keys := by
    have := List.Sublist.append_left (List.drop_sublist_drop_left keys (Nat.le_succ i)) (keys.take i)
    rwa [List.take_append_drop] at this
  refine ⟨by simp; omega, by have := h.n; simp; omega, h.nd.sublist hsub, ?_, ?_, ?_⟩
  · intro j hj hj'
    obtain ⟨k, hk, hki, e, ek⟩ := getElem_cut keys i j hi hj
    obtain ⟨k', hk', -, e', ek'⟩ := getElem_cut datas i j (by omega) hj'
    have : k' = k := by rw [ek', ek]
    subst this
    rw [e, e']
    unfold updO
    rw [if_neg (show ¬ keys[k'] = keys[i] from fun e' => hki (nodup_inj h.nd hk hi e'))]
    exact h.at_ k' hk _
  · intro q hq
    unfold updO
    split
    · rfl
    · next hne =>
      apply h.no q
      intro hm
      apply hq
      obtain ⟨k, hk, rfl⟩ := List.mem_iff_getElem.1 hm
      have hki : k ≠ i := fun e => hne (by subst e; rfl)
      rcases Nat.lt_or_gt_of_ne hki with hlt | hgt
      · exact List.mem_append.2 (Or.inl (List.mem_take_iff_getElem.2 ⟨k, by omega, rfl⟩))
      · refine List.mem_append.2 (Or.inr (List.mem_drop_iff_getElem.2 ⟨k - (i + 1), by omega, ?_⟩))
        congr 1
        omega
  · intro l hl
    rcases List.mem_append.1 hl with h' | h'
    · exact h.small l (List.mem_of_mem_take h')
    · exact h.small l (List.mem_of_mem_drop h')
theorem same_len {ks keys : List H32} (h1 : ks.Nodup) (h2 : keys.Nodup) (h : ∀ q, q ∈ ks ↔ q ∈ keys) : ks.length = keys.length :=
  ((List.perm_ext_iff_of_nodup h1 h2).2 h).length_eq
end Go.Proofs.Ytcbglojjbgenlaa
namespace Go.Proofs.Ytcbglojjbgenlaa
open Go.RowKit Go.MapL Go.ChangeMaps Go.MapKept
set_option linter.unusedSimpArgs false
set_option linter.unusedVariables false

/-- an op of a script -/
structure Opv where
  kind : Int
  key : H32
  dA : Option Addr
  dc : Nat
  data : Bs
  n : Int
  cnt : Int
  tag : H32
  cho : Value
abbrev Opv.da (o : Opv) : Value := .slice o.dA o.data.length o.dc
def opC (o : Opv) : List Value := [.int .i64 o.kind] ++ (o.key.1.map bv ++ ([o.da, .int .i64 o.n] ++ (regC o.cnt o.tag ++ [o.cho])))
theorem opC_len (o : Opv) : (opC o).length = 69 := by simp [opC, o.key.2, reg_len]
def OpAt (w : World) (g : Nat) (o : Opv) : Prop := w.heap[g]? = some (.cells (opC o).toArray 66 (0, 0))
theorem op_c {w : World} {g : Nat} {o : Opv} (h : OpAt w g o) : w.cell? ⟨g, 0, none⟩ = some (.int .i64 o.kind) ∧ w.rangeAt g 1 (o.key.1.map bv) ∧ w.cell? ⟨g, 33, none⟩ = some o.da ∧ w.cell? ⟨g, 34, none⟩ = some (.int .i64 o.n) ∧ w.cell? ⟨g, 35, none⟩ = some (.int .i64 o.cnt) ∧ w.rangeAt g 35 (regC o.cnt o.tag) := by
  have hc := fun k => cell_of_row w g k _ _ _ h
  have e1 : ∀ k, (opC o).toArray[1 + 32 + k]? = ([o.da, .int .i64 o.n] ++ (regC o.cnt o.tag ++ [o.cho]))[k]? := fun k => by
    rw [List.getElem?_toArray, opC, List.getElem?_append_right (by simp; omega), List.getElem?_append_right (by simp [o.key.2])]
    congr 1
    simp [o.key.2]
  refine ⟨?_, range_blk h 1 _ (fun j v hj => ?_), ?_, ?_, ?_, range_blk h 35 _ (fun j v hj => ?_)⟩
  · rw [hc]; rfl
  · have hj' := (List.getElem?_eq_some_iff.1 hj).1
    rw [List.getElem?_toArray, opC, List.getElem?_append_right (by simp), List.getElem?_append_left (by simpa using hj'), ← hj]
    congr 1
    simp
  · rw [hc]; exact e1 0
  · rw [hc]; exact e1 1
  · rw [hc]; exact e1 2
  · have hj' := (List.getElem?_eq_some_iff.1 hj).1
    have := e1 (2 + j)
    rw [show 1 + 32 + (2 + j) = 35 + j by omega] at this
    rw [this, List.getElem?_append_right (by simp), List.getElem?_append_left (by simpa using hj'), ← hj]
    congr 1
    simp

theorem opC_0 (o : Opv) : (opC o)[0]? = some (.int .i64 o.kind) := rfl
theorem opC_at (o : Opv) (k : Nat) : (opC o)[33 + k]? = ([o.da, .int .i64 o.n] ++ (regC o.cnt o.tag ++ [o.cho]))[k]? := by
  rw [opC, List.getElem?_append_right (by simp; omega), List.getElem?_append_right (by simp [o.key.2])]
  congr 1
  simp [o.key.2]
theorem opC_33 (o : Opv) : (opC o)[33]? = some o.da := opC_at o 0
theorem opC_34 (o : Opv) : (opC o)[34]? = some (.int .i64 o.n) := opC_at o 1
theorem opC_35 (o : Opv) : (opC o)[35]? = some (.int .i64 o.cnt) := opC_at o 2
theorem opC_0g (o : Opv) (h : 0 < (opC o).length) : (opC o)[0] = .int .i64 o.kind := by
  have := opC_0 o
  rw [List.getElem?_eq_getElem h] at this
  injection this
theorem opC_33g (o : Opv) (h : 33 < (opC o).length) : (opC o)[33] = o.da := by
  have := opC_33 o
  rw [List.getElem?_eq_getElem h] at this
  injection this
theorem opC_34g (o : Opv) (h : 34 < (opC o).length) : (opC o)[34] = .int .i64 o.n := by
  have := opC_34 o
  rw [List.getElem?_eq_getElem h] at this
  injection this
theorem opC_35g (o : Opv) (h : 35 < (opC o).length) : (opC o)[35] = .int .i64 o.cnt := by
  have := opC_35 o
  rw [List.getElem?_eq_getElem h] at this
  injection this

end Go.Proofs.Ytcbglojjbgenlaa
