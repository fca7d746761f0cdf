/- Put as an access of a device by no choice. -/
import Derived.Test.YtcbglojjbgenlaaMedT
namespace Go.Proofs.Ytcbglojjbgenlaa
open Go.RowKit Go.MapL Go.ChangeMaps Go.MapKept
set_option linter.unusedSimpArgs false
set_option linter.unusedVariables false

theorem chg_id {w : World} (S : Nat → Prop) : Chg S w w := Chg.refl _ _
theorem Inv.mono {w : World} {D : Nat} {F F' : Nat → Prop} {d : Dv} (h : Inv w D F d) (hF : ∀ k, F k → F' k) : Inv w D F' d := by
  obtain ⟨m, hI⟩ := h
  have hc : Chg (fun _ => False) w w := Chg.refl _ _
  have hn : ∀ k, isBytes w k → ¬ (fun _ : Nat => False) k := fun _ _ h => h
  obtain ⟨vals, h1, h2, h3, h4⟩ := hI.past
  exact ⟨m, hI.dev, hF _ hI.fD, hF _ hI.fB, hF _ hI.fV, hI.xB, hI.xV, hI.bv, hI.blobs.chg hc (fun h => h) hn hF, hI.vers.chg hc (fun h => h) (fun _ _ _ _ h => h) hn hF, hI.log.mono hF,
    hI.cho.chg hc (fun _ _ _ _ h => h) hF, ⟨hI.acc.1, fun k hk => hF k (hI.acc.2 k hk)⟩, ⟨vals, h1, h2, fun i hi hi' => (h3 i hi hi').chg hc (fun _ _ _ _ h => h.elim) hn hF, fun k hk => hF k (h4 k hk)⟩⟩
theorem putV_iso {m : H32 → Option Value} {q : H32} {v : Value} : (putV m q v q).isSome = true := by rw [putV_same]; rfl

theorem acc_put {w : World} {D A : Nat} {F : Nat → Prop} {d : Dv} (h : Awake w D F d) {q tag : H32} {ks : Value} {n cnt : Int} {dA : Option Addr} {dc : Nat} {l : Bs} (hA : DeedAt w A 2 q (.slice dA l.length dc) ks n cnt tag) (hdb : DB w F (.slice dA l.length dc) l)
    (hno : d.blobs q = none) (hroom : (d.n : Int) < d.slots) (hfew : d.acc.length < 1099511627776 ∧ d.past.length < 1099511627776 ∧ ∀ q, (d.vers q).length < 1099511627776) :
    Calls Try.prog 35 #[.pointer (some ⟨D, 0, none⟩), .pointer (some ⟨A, 0, none⟩)] w fun e w' => e = .returned (.int .i64 0) ∧
      Awake w' D (Grown F w w') { d with blobs := updO d.blobs q (some l), n := d.n + 1, vers := updL d.vers q (d.vers q ++ [l]), acc := d.acc ++ [(2, 0, true)], past := d.past ++ [⟨updO (fun _ => none) q (some (d.blobs q)), 1, d.log⟩] } ∧ Chg (fun k => (F k ∨ k = A) ∧ ¬ isBytes w k) w w' := by
  obtain ⟨m, hI, ⟨cA, cc, hcv⟩, ⟨lA, lc, hlv⟩, ⟨aA, ac, hav⟩, vals, pA, pc, hpv, hvl, hrp0, hpc, hpF⟩ := h.parts
  have hDA : D ≠ A := dev_ne_deed hI.dev hA
  have hAlt : A < w.heap.size := (Array.getElem?_eq_some_iff.1 hA).1
  have hDlt : D < w.heap.size := (Array.getElem?_eq_some_iff.1 hI.dev).1
  obtain ⟨mB, hmB, hrB⟩ := hI.blobs
  obtain ⟨mV, nV, hmV, h1, h2⟩ := hI.vers
  have hBlt := hmB.lt
  have hVlt := hmV.lt
  have hBD : m.B ≠ D := map_ne_cells hmB hI.dev
  have hBA : m.B ≠ A := map_ne_cells hmB hA
  have hVD : m.V ≠ D := map_ne_cells hmV hI.dev
  have hVA : m.V ≠ A := map_ne_cells hmV hA
  have hRq := hrB q
  rw [hno] at hRq
  have hmBq : mB q = none := by
    cases e : mB q with
    | none => rfl
    | some a => rw [e] at hRq; exact hRq.elim
  obtain ⟨vo, vals9, hvo, hown9, hv9, hvoF⟩ : ∃ vo vals9, (mV q).getD (.slice none 0 0) = vo ∧ w.ownsRow 0 29 1 vo (d.vers q).length vals9 ∧ (∀ i (h : i < (d.vers q).length) (h' : i < vals9.length), DB w F vals9[i] (d.vers q)[i]) ∧ ∀ k, vo.ownBlock = some k → F k := by
    rcases h1 q with ⟨e, e'⟩ | ⟨v1, e, vals9, a1, a2, a3⟩
    · refine ⟨_, [], rfl, ?_, fun i hi => ?_, fun k hk => ?_⟩
      · rw [e, e']
        exact own_nil _ _ _ _
      · rw [e'] at hi
        simp at hi
      · rw [e] at hk
        simp [Value.ownBlock] at hk
    · exact ⟨v1, vals9, by rw [e]; rfl, a1, a2, a3⟩
  obtain ⟨oA, oc, hvs⟩ := row_slice hown9
  subst hvs
  have hoD : (Value.slice oA (d.vers q).length oc).ownBlock ≠ some D := fun e => row_ne_dev hown9 (by decide) hI.dev D e rfl
  have hoA : (Value.slice oA (d.vers q).length oc).ownBlock ≠ some A := fun e => row_ne_deed hown9 (by decide) hA A e rfl
  let R : Nat → Prop := fun k => k = D ∨ k = m.B ∨ k = m.V ∨ (Value.slice oA (d.vers q).length oc).ownBlock = some k
  let Q : World → Fd → Prop := fun w2 f2 => ∃ N v9 nV', w.heap.size ≤ N ∧ f2 = { fdOf d m with nb := .map (some N), nl := m.lv } ∧ MapIs HC w2 m.B (putV mB q (.slice dA l.length dc)) (d.n + 1) ∧ MapIs HC w2 N (putV (fun _ => none) q (.agg #[.slice none 0 0, .bool false])) 1 ∧
    MapIs HC w2 m.V (putV mV q v9) nV' ∧ w2.ownsRow 0 29 1 v9 ((d.vers q).length + 1) (vals9 ++ [.slice dA l.length dc]) ∧ (v9.ownBlock = (Value.slice oA (d.vers q).length oc).ownBlock ∨ ∃ k, w.heap.size ≤ k ∧ v9.ownBlock = some k) ∧ Chg R w w2
  have hrow : ∀ {e : TypeId} {size : Nat} {v : Value} {n : Nat} {xs : List Value}, w.ownsRow 0 e size v n xs → e ≠ 84 → e ≠ 29 → ∀ k, v.ownBlock = some k → ¬ R k := by
    intro e size v n xs hv he1 he2 k hk hR
    rcases hR with hR | hR | hR | hR
    · exact row_ne_dev hv he1 hI.dev k hk hR
    · obtain ⟨_, _, hh⟩ := own_heap hv hk
      exact map_ne_cells hmB hh hR.symm
    · obtain ⟨_, _, hh⟩ := own_heap hv hk
      exact map_ne_cells hmV hh hR.symm
    · exact row_ne_row hv hown9 he2 k hk hR
  refine (access_ch D A (fdOf d m) 2 0 d.acc.length d.past.length (d.acc.flatMap acC) (pastC vals) w hI.dev cA cc hcv lA d.log.length lc hlv (deed_c hA).1 hDA Q ?_ ?_ (by omega) (by omega) (by decide) (by decide)).mono ?_
  · intro W N hcW hN hmN hdW
    have hAW := deed_chg hA hcW (fun e => hDA e.symm)
    have hBW := map_chg hmB hcW hBD
    have hVW := map_chg hmV hcW hVD
    have hoW := own_chg hown9 hcW (fun k hk e => hoD (e ▸ hk))
    refine (does_put D A m.B N m.V d.n 0 nV _ mB (fun _ => none) mV q dA l.length dc ks n cnt tag W hdW hAW rfl rfl rfl (by omega) (fun e => hI.bv e.symm) (by omega) hBW hmN hVW rfl (Or.inr hroom) none 0 0 false (by rw [hmBq]; rfl) (by rw [hmBq]; rfl) (d.n + 1) (by rw [hmBq]; rfl) oA _ oc hvo vals9 hoW (h.few.2.2 q) hoD hoA).mono ?_
    rintro e w2 ⟨v9, nV', rfl, hB2, hN2, hV2, ho2, hk2, hc2⟩
    have hAR : ¬ R A := by
      rintro (e | e | e | e)
      · exact hDA e.symm
      · exact hBA e.symm
      · exact hVA e.symm
      · exact hoA e
    have hc02 : Chg R w w2 := by
      have a1 : Chg (fun k => R k ∨ k = N) w w2 := (hcW.mono (fun k _ h => Or.inl (Or.inl h))).trans (hc2.mono (fun k _ h => by
        rcases h with h | h | h | h
        · exact Or.inl (Or.inr (Or.inl h))
        · exact Or.inr h
        · exact Or.inl (Or.inr (Or.inr (Or.inl h)))
        · exact Or.inl (Or.inr (Or.inr (Or.inr h)))))
      exact a1.mono (fun k hk h => h.elim id (fun h => by omega))
    refine ⟨_, rfl, ⟨dev_chg hdW hc2 ?_, rfl, rfl, ⟨aA, ac, hav, own_chg hI.acc.1 hc02 (hrow hI.acc.1 (by decide) (by decide))⟩, ⟨pA, pc, hpv, own_chg hrp0 hc02 (hrow hrp0 (by decide) (by decide))⟩, ⟨q, _, ks, n, cnt, tag, deed_chg hA hc02 hAR⟩⟩, ⟨N, v9, nV', hN, by rw [hlv], hB2, hN2, hV2, ho2, ?_, hc02⟩, fun k g1 g2 g3 => hc2.block k g3 ?_⟩
    · rintro (e | e | e | e)
      · exact hBD e.symm
      · omega
      · exact hVD e.symm
      · exact hoD e
    · exact hk2.imp id (fun ⟨k, a, b⟩ => ⟨k, by have := hcW.size; omega, b⟩)
    · rintro (e | e | e | e)
      · omega
      · exact g2 e
      · omega
      · obtain ⟨_, _, hh⟩ := own_heap hown9 e
        have := (Array.getElem?_eq_some_iff.1 hh).1
        omega
  · rintro W f2 N' hacc ⟨N, v9, nV', hN, hf2, hB2, hN2, hV2, ho2, hk2, hc2⟩
    exact changed_one D m.B N (d.n + 1) f2 _ _ q W hacc.dev (by rw [hf2]; rfl) (by rw [hf2]) hB2 hN2 none 0 0 false (putV_same _ _ _) (fun q' hq => putV_other _ _ hq) dA l.length dc (by rw [putV_same]; rfl) putV_iso
  · rintro e w' ⟨rfl, w2, f2, av, pv, ⟨N, v9, nV', hN, hf2, hB2, hN2, hV2, ho2, hk2, hc2⟩, hd2, hdev, hra, hrp, hc', ha', hp'⟩
    subst hf2
    have hcS : Chg (fun k => Smal D A m.av m.pv k ∨ k = m.B ∨ k = m.V ∨ (Value.slice oA (d.vers q).length oc).ownBlock = some k) w w' := (hc2.mono (fun k _ h => by
        rcases h with h | h | h | h
        · exact Or.inl (Or.inl h)
        · exact Or.inr (Or.inl h)
        · exact Or.inr (Or.inr (Or.inl h))
        · exact Or.inr (Or.inr (Or.inr h)))).trans (hc'.mono (fun k _ h => h.elim (fun h => Or.inl (Or.inl h)) (fun h => Or.inl (Or.inr (Or.inr h)))))
    have hz : w.heap.size ≤ w2.heap.size := hc2.size
    have hav' : av.ownBlock = m.av.ownBlock ∨ ∃ k, w.heap.size ≤ k ∧ av.ownBlock = some k := ha'.imp id (fun ⟨k, h1, h2⟩ => ⟨k, by omega, h2⟩)
    have hpv' : pv.ownBlock = m.pv.ownBlock ∨ ∃ k, w.heap.size ≤ k ∧ pv.ownBlock = some k := hp'.imp id (fun ⟨k, h1, h2⟩ => ⟨k, by omega, h2⟩)
    have hra2 := own_chg hI.acc.1 hc2 (hrow hI.acc.1 (by decide) (by decide))
    have hrp2 := own_chg hrp0 hc2 (hrow hrp0 (by decide) (by decide))
    have hnm : ∀ {X n : Nat} {mm : H32 → Option Value}, MapIs HC w2 X mm n → ¬ (X = D ∨ m.av.ownBlock = some X ∨ m.pv.ownBlock = some X) := by
      intro X n mm hX e
      rcases e with e | e | e
      · exact map_ne_cells hX hd2 e
      · obtain ⟨_, _, hh⟩ := own_heap hra2 e
        exact map_ne_cells hX hh rfl
      · obtain ⟨_, _, hh⟩ := own_heap hrp2 e
        exact map_ne_cells hX hh rfl
    have ho' : w'.ownsRow 0 29 1 v9 ((d.vers q).length + 1) (vals9 ++ [.slice dA l.length dc]) := own_chg ho2 hc' (fun k hk e => by
      rcases e with e | e | e
      · exact row_ne_dev ho2 (by decide) hd2 k hk e
      · exact row_ne_row ho2 hra2 (by decide) k hk e
      · exact row_ne_row ho2 hrp2 (by decide) k hk e)
    have hcellb : ∀ k, isBytes w k → ¬ (Smal D A m.av m.pv k ∨ k = m.B ∨ k = m.V ∨ (Value.slice oA (d.vers q).length oc).ownBlock = some k) := by
      rintro k ⟨cs, fr, hk⟩ (hS | hS | hS | hS)
      · exact smal_cells hI.dev hA hI.acc.1 hrp0 hk (by decide) hS
      · exact map_ne_cells hmB hk hS.symm
      · exact map_ne_cells hmV hk hS.symm
      · obtain ⟨_, _, hh⟩ := own_heap hown9 hS
        rw [hk] at hh
        injection hh with hh
        injection hh with _ hh
        exact absurd hh (by decide)
    have hinv := inv_put hI hA q vals hvl hrp0 hpc hpF mB mV hrB hBlt hVlt h1 h2 _ v9 (.slice dA l.length dc) (.slice none 0 0) vals9 false l (d.n + 1) nV' hvo (by rw [hmBq]; rfl) (by rw [hmBq]; rfl) hown9 hv9
      (map_chg hB2 hc' (hnm hB2)) (map_chg hV2 hc' (hnm hV2)) ho' hk2 ((hdb.chg hcS hcellb).mono grown_old) N av pv (2, 0, true) hN (map_chg hN2 hc' (hnm hN2)) hdev hra hrp hcS hav' hpv'
    refine ⟨rfl, ⟨hinv, fun k hk => ?_, h.cho, ⟨by simp; omega, by simp; omega, fun q' => ?_⟩, h.low⟩, ?_⟩
    · rcases hk with hk | hk
      · have := h.fit k hk; have := hcS.size; omega
      · exact hk.2
    · show (updL d.vers q (d.vers q ++ [l]) q').length ≤ _
      unfold updL
      split
      · have := hfew.2.2 q
        simp
        omega
      · exact h.few.2.2 q'
    · refine hcS.mono (fun k _ hk => ⟨?_, fun hb => hcellb k hb hk⟩)
      rcases hk with (rfl | rfl | hk | hk) | rfl | rfl | hk
      · exact Or.inl hI.fD
      · exact Or.inr rfl
      · exact Or.inl (hI.acc.2 k hk)
      · exact Or.inl (hpF k hk)
      · exact Or.inl hI.fB
      · exact Or.inl hI.fV
      · exact Or.inl (hvoF k hk)
end Go.Proofs.Ytcbglojjbgenlaa
