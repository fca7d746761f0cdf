/- Get, Read, Append, Put as accesses of a device by no choice. -/
import Derived.Test.YtcbglojjbgenlaaMedS
import Derived.Test.YtcbglojjbgenlaaMedO
import Derived.Test.YtcbglojjbgenlaaMedP
namespace Go.Proofs.Ytcbglojjbgenlaa
open Go.RowKit Go.MapL Go.ChangeMaps Go.MapKept
set_option linter.unusedSimpArgs false
set_option linter.unusedVariables false

/-- A device that can be asked. -/
structure Awake (w : World) (D : Nat) (F : Nat → Prop) (d : Dv) : Prop where
  inv : Inv w D F d
  fit : ∀ k, F k → k < w.heap.size
  cho : d.cho = []
  few : d.acc.length ≤ 1099511627776 ∧ d.past.length ≤ 1099511627776 ∧ ∀ q, (d.vers q).length ≤ 1099511627776
  low : d.log.length ≤ 1048576

theorem row_slice {w : World} {base n size : Nat} {e : TypeId} {v : Value} {xs : List Value} (h : w.ownsRow base e size v n xs) : ∃ A c, v = .slice A n c := by
  obtain ⟨A, c, e, _⟩ := Src.own h
  exact ⟨A, c, e⟩
theorem row_ne_deed {w : World} {base : Nat} {e : TypeId} {size : Nat} {v : Value} {m : Nat} {ys : List Value} {A : Nat} {kind n cnt : Int} {q tag : H32} {da ks : Value} (hv : w.ownsRow base e size v m ys) (he : e ≠ 86) (hA : DeedAt w A kind q da ks n cnt tag) : ∀ k, v.ownBlock = some k → k ≠ A := by
  rintro k hk rfl
  obtain ⟨c, fr, h⟩ := own_heap hv hk
  unfold DeedAt at hA
  rw [hA] at h
  injection h with h
  injection h with _ h
  exact he h.symm
theorem acc_true (kind r : Int) (hr : r = 0) : acC (kind, 0, true) = [.int .i64 kind, .int .i64 0, .bool (r == 0)] := by subst hr; rfl

/-- what an awake device is, taken apart -/
theorem Awake.parts {w : World} {D : Nat} {F : Nat → Prop} {d : Dv} (h : Awake w D F d) : ∃ m, Core w D F (fun k => k = m.B ∨ k = m.V) d m ∧ (∃ cA cc, m.cv = .slice cA 0 cc) ∧ (∃ lA lc, m.lv = .slice lA d.log.length lc) ∧ (∃ aA ac, m.av = .slice aA d.acc.length ac) ∧
    ∃ vals pA pc, m.pv = .slice pA d.past.length pc ∧ vals.length = d.past.length ∧ w.ownsRow 0 82 2 m.pv d.past.length (pastC vals) ∧ (∀ i (h : i < d.past.length) (h' : i < vals.length), PcAt w F (fun k => k = m.B ∨ k = m.V) vals[i].1 vals[i].2 d.past[i]) ∧ ∀ k, m.pv.ownBlock = some k → F k := by
  obtain ⟨m, hI⟩ := h.inv
  obtain ⟨vals, h1, h2, h3, h4⟩ := hI.past
  obtain ⟨pA, pc, e⟩ := row_slice h2
  obtain ⟨cA, cc, ec, _⟩ := hI.cho.1
  obtain ⟨lA, lc, el, _⟩ := hI.log.1
  obtain ⟨aA, ac, ea⟩ := row_slice hI.acc.1
  exact ⟨m, hI, ⟨cA, cc, by rw [ec, h.cho]; rfl⟩, ⟨lA, lc, el⟩, ⟨aA, ac, ea⟩, vals, pA, pc, e, h1, h2, h3, h4⟩

theorem acc_read {w : World} {D A : Nat} {F : Nat → Prop} {d : Dv} (h : Awake w D F d) {q tag : H32} {da ks : Value} {n cnt : Int} (hA : DeedAt w A 5 q da ks n cnt tag) (hfew : d.acc.length < 1099511627776) :
    Calls Try.prog 35 #[.pointer (some ⟨D, 0, none⟩), .pointer (some ⟨A, 0, none⟩)] w fun e w' => e = .returned (.int .i64 0) ∧
      Awake w' D (Grown F w w') { d with acc := d.acc ++ [(5, 0, true)] } ∧ (∃ v, DeedAt w' A 5 q v ks n cnt tag ∧ DB w' (fun _ => True) v d.log) ∧ Chg (fun k => (F k ∨ k = A) ∧ ¬ isBytes w k) w w' := by
  obtain ⟨m, hI, ⟨cA, cc, hcv⟩, ⟨lA, lc, hlv⟩, ⟨aA, ac, hav⟩, vals, pA, pc, hpv, hvl, hrp0, hpc, hpF⟩ := h.parts
  have hDA : D ≠ A := dev_ne_deed hI.dev hA
  have hAlt : A < w.heap.size := (Array.getElem?_eq_some_iff.1 hA).1
  obtain ⟨mB, hmB, hrB⟩ := hI.blobs
  have hBD : m.B ≠ D := map_ne_cells hmB hI.dev
  have hBA : m.B ≠ A := map_ne_cells hmB hA
  let Q : World → Fd → Prop := fun w2 f2 => ∃ N, w.heap.size ≤ N ∧ f2 = { fdOf d m with nb := .map (some N), nl := m.lv } ∧ MapIs HC w2 N (fun _ => none) 0 ∧ DeedAt w2 A 5 q m.lv ks n cnt tag ∧ Chg (fun k => k = D ∨ k = A) w w2
  have hsm : ∀ k, isBytes w k → ¬ (k = D ∨ k = A) := by
    rintro k ⟨cs, fr, hk⟩ (rfl | rfl)
    · have := hI.dev
      unfold DevAt at this
      rw [hk] at this
      injection this with this
      injection this with _ this
      exact absurd this (by decide)
    · unfold DeedAt at hA
      rw [hk] at hA
      injection hA with hA
      injection hA with _ hA
      exact absurd hA (by decide)
  refine (access_no D A (fdOf d m) 5 0 d.acc.length d.past.length (d.acc.flatMap acC) (pastC vals) w hI.dev cA cc hcv lA d.log.length lc hlv (deed_c hA).1 hDA Q ?_ ?_ (by omega) h.few.2.1 (by decide) (by decide)).mono ?_
  · intro W N hcW hN hmN hdW
    have hAW := deed_chg hA hcW (fun e => hDA e.symm)
    have hBW := map_chg hmB hcW hBD
    refine (does_read D A m.B d.n _ mB q da ks n cnt tag W hdW hAW rfl hBW lA d.log.length lc hlv).mono ?_
    rintro e w2 ⟨rfl, hA2, hc2⟩
    have hNA : N ≠ A := map_ne_cells hmN hAW
    have hc02 : Chg (fun k => k = D ∨ k = A) w w2 := (hcW.mono (fun k _ h => Or.inl h)).trans (hc2.mono (fun k _ h => Or.inr h))
    refine ⟨_, rfl, ⟨dev_chg hdW hc2 hDA, rfl, rfl, ⟨aA, ac, hav, ?_⟩, ⟨pA, pc, hpv, ?_⟩, ⟨q, _, ks, n, cnt, tag, hA2⟩⟩, ⟨N, hN, ?_, map_chg hmN hc2 hNA, ?_, hc02⟩, fun k h1 h2 h3 => hc2.block k h3 (by omega)⟩
    · exact own_chg hI.acc.1 hc02 (fun k hk => by rintro (e | e); exact row_ne_dev hI.acc.1 (by decide) hI.dev k hk e; exact row_ne_deed hI.acc.1 (by decide) hA k hk e)
    · exact own_chg hrp0 hc02 (fun k hk => by rintro (e | e); exact row_ne_dev hrp0 (by decide) hI.dev k hk e; exact row_ne_deed hrp0 (by decide) hA k hk e)
    · rw [hlv]
    · rw [hlv]; exact hA2
  · rintro W f2 N' hacc ⟨N, hN, hf2, hmN, hA2, hc2⟩
    have hl := (hI.log.chg hc2 hsm).1
    have := changed_empty D N 0 f2 (fun _ => none) W hacc.dev (by rw [hf2]) hmN (fun _ => rfl) d.log d.log (by rw [hf2]; exact hl) (by rw [hf2]; exact hl)
    simpa using this
  · rintro e w' ⟨rfl, w2, f2, av, pv, ⟨N, hN, hf2, hmN, hA2, hc2⟩, hd2, hdev, hra, hrp, hc', ha', hp'⟩
    subst hf2
    have hcS : Chg (Smal D A m.av m.pv) w w' := (hc2.mono (fun k _ h => h.elim Or.inl (fun h => Or.inr (Or.inl h)))).trans (hc'.mono (fun k _ h => h.elim Or.inl (fun h => Or.inr (Or.inr h))))
    have hz : w.heap.size ≤ w2.heap.size := hc2.size
    have hav' : av.ownBlock = m.av.ownBlock ∨ ∃ k, w.heap.size ≤ k ∧ av.ownBlock = some k := ha'.imp id (fun ⟨k, h1, h2⟩ => ⟨k, by omega, h2⟩)
    have hpv' : pv.ownBlock = m.pv.ownBlock ∨ ∃ k, w.heap.size ≤ k ∧ pv.ownBlock = some k := hp'.imp id (fun ⟨k, h1, h2⟩ => ⟨k, by omega, h2⟩)
    have hinv := inv_same hI hA vals hvl hrp0 hpc hpF (.map (some N)) m.lv av pv (5, 0, true) hdev hra hrp hcS hav' hpv'
    refine ⟨rfl, ⟨hinv, fun k hk => ?_, h.cho, ⟨by simp; omega, h.few.2⟩, h.low⟩, ⟨m.lv, ?_, ?_⟩, ?_⟩
    · rcases hk with hk | hk
      · have := h.fit k hk; have := hcS.size; omega
      · exact hk.2
    · refine deed_chg hA2 hc' (fun e => ?_)
      rcases e with e | e | e
      · exact hDA e.symm
      · exact row_ne_deed hI.acc.1 (by decide) hA A e rfl
      · exact row_ne_deed hrp0 (by decide) hA A e rfl
    · have hsb : ∀ k, isBytes w k → ¬ Smal D A m.av m.pv k := fun k ⟨cs, fr, hk⟩ => smal_cells hI.dev hA hI.acc.1 hrp0 hk (by decide)
      exact (hI.log.chg hcS hsb).mono (fun _ _ => trivial)
    · refine hcS.mono (fun k _ hk => ⟨?_, fun ⟨cs, fr, hb⟩ => smal_cells hI.dev hA hI.acc.1 hrp0 hb (by decide) hk⟩)
      rcases hk with rfl | rfl | hk | hk
      · exact Or.inl hI.fD
      · exact Or.inr rfl
      · exact Or.inl (hI.acc.2 k hk)
      · exact Or.inl (hpF k hk)
theorem acc_get {w : World} {D A : Nat} {F : Nat → Prop} {d : Dv} (h : Awake w D F d) {q tag : H32} {da ks : Value} {n cnt : Int} (hA : DeedAt w A 1 q da ks n cnt tag) (l : Bs) (hl : d.blobs q = some l) (hfew : d.acc.length < 1099511627776) :
    Calls Try.prog 35 #[.pointer (some ⟨D, 0, none⟩), .pointer (some ⟨A, 0, none⟩)] w fun e w' => e = .returned (.int .i64 0) ∧
      Awake w' D (Grown F w w') { d with acc := d.acc ++ [(1, 0, true)] } ∧ (∃ v, DeedAt w' A 1 q v ks n cnt tag ∧ DB w' (fun _ => True) v l) ∧ Chg (fun k => (F k ∨ k = A) ∧ ¬ isBytes w k) w w' := by
  obtain ⟨m, hI, ⟨cA, cc, hcv⟩, ⟨lA, lc, hlv⟩, ⟨aA, ac, hav⟩, vals, pA, pc, hpv, hvl, hrp0, hpc, hpF⟩ := h.parts
  have hDA : D ≠ A := dev_ne_deed hI.dev hA
  have hAlt : A < w.heap.size := (Array.getElem?_eq_some_iff.1 hA).1
  obtain ⟨mB, hmB, hrB⟩ := hI.blobs
  have hRq := hrB q
  rw [hl] at hRq
  obtain ⟨x, hx, hxd⟩ := hRq.some
  obtain ⟨xA, xc, rfl, hx0⟩ := hxd.1
  have hxd' : DB w F (.slice xA l.length xc) l := hxd
  have hBD : m.B ≠ D := map_ne_cells hmB hI.dev
  have hBA : m.B ≠ A := map_ne_cells hmB hA
  let Q : World → Fd → Prop := fun w2 f2 => ∃ N, w.heap.size ≤ N ∧ f2 = { fdOf d m with nb := .map (some N), nl := m.lv } ∧ MapIs HC w2 N (fun _ => none) 0 ∧ DeedAt w2 A 1 q (.slice xA l.length xc) ks n cnt tag ∧ Chg (fun k => k = D ∨ k = A) w w2
  have hsm : ∀ k, isBytes w k → ¬ (k = D ∨ k = A) := by
    rintro k ⟨cs, fr, hk⟩ (rfl | rfl)
    · have := hI.dev
      unfold DevAt at this
      rw [hk] at this
      injection this with this
      injection this with _ this
      exact absurd this (by decide)
    · unfold DeedAt at hA
      rw [hk] at hA
      injection hA with hA
      injection hA with _ hA
      exact absurd hA (by decide)
  refine (access_no D A (fdOf d m) 1 0 d.acc.length d.past.length (d.acc.flatMap acC) (pastC vals) w hI.dev cA cc hcv lA d.log.length lc hlv (deed_c hA).1 hDA Q ?_ ?_ (by omega) h.few.2.1 (by decide) (by decide)).mono ?_
  · intro W N hcW hN hmN hdW
    have hAW := deed_chg hA hcW (fun e => hDA e.symm)
    have hBW := map_chg hmB hcW hBD
    refine (does_get D A m.B d.n _ mB q da ks n cnt tag W hdW hAW rfl hBW xA l.length xc hx).mono ?_
    rintro e w2 ⟨rfl, hA2, hc2⟩
    have hNA : N ≠ A := map_ne_cells hmN hAW
    have hc02 : Chg (fun k => k = D ∨ k = A) w w2 := (hcW.mono (fun k _ h => Or.inl h)).trans (hc2.mono (fun k _ h => Or.inr h))
    refine ⟨_, rfl, ⟨dev_chg hdW hc2 hDA, rfl, rfl, ⟨aA, ac, hav, ?_⟩, ⟨pA, pc, hpv, ?_⟩, ⟨q, _, ks, n, cnt, tag, hA2⟩⟩, ⟨N, hN, ?_, map_chg hmN hc2 hNA, ?_, hc02⟩, fun k h1 h2 h3 => hc2.block k h3 (by omega)⟩
    · exact own_chg hI.acc.1 hc02 (fun k hk => by rintro (e | e); exact row_ne_dev hI.acc.1 (by decide) hI.dev k hk e; exact row_ne_deed hI.acc.1 (by decide) hA k hk e)
    · exact own_chg hrp0 hc02 (fun k hk => by rintro (e | e); exact row_ne_dev hrp0 (by decide) hI.dev k hk e; exact row_ne_deed hrp0 (by decide) hA k hk e)
    · rw [hlv]
    · exact hA2
  · rintro W f2 N' hacc ⟨N, hN, hf2, hmN, hA2, hc2⟩
    have hl := (hI.log.chg hc2 hsm).1
    have := changed_empty D N 0 f2 (fun _ => none) W hacc.dev (by rw [hf2]) hmN (fun _ => rfl) d.log d.log (by rw [hf2]; exact hl) (by rw [hf2]; exact hl)
    simpa using this
  · rintro e w' ⟨rfl, w2, f2, av, pv, ⟨N, hN, hf2, hmN, hA2, hc2⟩, hd2, hdev, hra, hrp, hc', ha', hp'⟩
    subst hf2
    have hcS : Chg (Smal D A m.av m.pv) w w' := (hc2.mono (fun k _ h => h.elim Or.inl (fun h => Or.inr (Or.inl h)))).trans (hc'.mono (fun k _ h => h.elim Or.inl (fun h => Or.inr (Or.inr h))))
    have hz : w.heap.size ≤ w2.heap.size := hc2.size
    have hav' : av.ownBlock = m.av.ownBlock ∨ ∃ k, w.heap.size ≤ k ∧ av.ownBlock = some k := ha'.imp id (fun ⟨k, h1, h2⟩ => ⟨k, by omega, h2⟩)
    have hpv' : pv.ownBlock = m.pv.ownBlock ∨ ∃ k, w.heap.size ≤ k ∧ pv.ownBlock = some k := hp'.imp id (fun ⟨k, h1, h2⟩ => ⟨k, by omega, h2⟩)
    have hinv := inv_same hI hA vals hvl hrp0 hpc hpF (.map (some N)) m.lv av pv (1, 0, true) hdev hra hrp hcS hav' hpv'
    refine ⟨rfl, ⟨hinv, fun k hk => ?_, h.cho, ⟨by simp; omega, h.few.2⟩, h.low⟩, ⟨.slice xA l.length xc, ?_, ?_⟩, ?_⟩
    · rcases hk with hk | hk
      · have := h.fit k hk; have := hcS.size; omega
      · exact hk.2
    · refine deed_chg hA2 hc' (fun e => ?_)
      rcases e with e | e | e
      · exact hDA e.symm
      · exact row_ne_deed hI.acc.1 (by decide) hA A e rfl
      · exact row_ne_deed hrp0 (by decide) hA A e rfl
    · have hsb : ∀ k, isBytes w k → ¬ Smal D A m.av m.pv k := fun k ⟨cs, fr, hk⟩ => smal_cells hI.dev hA hI.acc.1 hrp0 hk (by decide)
      exact (hxd'.chg hcS hsb).mono (fun _ _ => trivial)
    · refine hcS.mono (fun k _ hk => ⟨?_, fun ⟨cs, fr, hb⟩ => smal_cells hI.dev hA hI.acc.1 hrp0 hb (by decide) hk⟩)
      rcases hk with rfl | rfl | hk | hk
      · exact Or.inl hI.fD
      · exact Or.inr rfl
      · exact Or.inl (hI.acc.2 k hk)
      · exact Or.inl (hpF k hk)
theorem acc_append {w : World} {D A : Nat} {F : Nat → Prop} {d : Dv} (h : Awake w D F d) {q tag : H32} {da ks : Value} {n cnt : Int} (hA : DeedAt w A 6 q da ks n cnt tag) (ld : Bs) (hda : SB w da ld) (hdaD : ∀ a, vBlock da = some a → a ≠ D) (hroom : (d.log.length : Int) + ld.length ≤ d.room) (hr2 : d.room ≤ 1048576) (hne : ld ≠ []) (hfew : d.acc.length < 1099511627776 ∧ d.past.length < 1099511627776) :
    Calls Try.prog 35 #[.pointer (some ⟨D, 0, none⟩), .pointer (some ⟨A, 0, none⟩)] w fun e w' => e = .returned (.int .i64 0) ∧
      Awake w' D (Grown F w w') { d with log := d.log ++ ld, acc := d.acc ++ [(6, 0, true)], past := d.past ++ [⟨fun _ => none, 0, d.log⟩] } ∧ DeedAt w' A 6 q da ks n cnt tag ∧ Chg (fun k => (F k ∨ k = A) ∧ ¬ isBytes w k) w w' := by
  obtain ⟨m, hI, ⟨cA, cc, hcv⟩, ⟨lA, lc, hlv⟩, ⟨aA, ac, hav⟩, vals, pA, pc, hpv, hvl, hrp0, hpc, hpF⟩ := h.parts
  have hDA : D ≠ A := dev_ne_deed hI.dev hA
  have hAlt : A < w.heap.size := (Array.getElem?_eq_some_iff.1 hA).1
  obtain ⟨mB, hmB, hrB⟩ := hI.blobs
  have hBD : m.B ≠ D := map_ne_cells hmB hI.dev
  have hBA : m.B ≠ A := map_ne_cells hmB hA
  let Q : World → Fd → Prop := fun w2 f2 => ∃ N l2A l2c, w.heap.size ≤ N ∧ f2 = { fdOf d m with log := .slice l2A (d.log.length + ld.length) l2c, nb := .map (some N), nl := m.lv } ∧ MapIs HC w2 N (fun _ => none) 0 ∧ OwnB w2 w.heap.size (.slice l2A (d.log.length + ld.length) l2c) (d.log ++ ld) ∧ Chg (fun k => k = D) w w2
  have hsm : ∀ k, isBytes w k → ¬ (k = D ∨ k = A) := by
    rintro k ⟨cs, fr, hk⟩ (rfl | rfl)
    · have := hI.dev
      unfold DevAt at this
      rw [hk] at this
      injection this with this
      injection this with _ this
      exact absurd this (by decide)
    · unfold DeedAt at hA
      rw [hk] at hA
      injection hA with hA
      injection hA with _ hA
      exact absurd hA (by decide)
  refine (access_ch D A (fdOf d m) 6 0 d.acc.length d.past.length (d.acc.flatMap acC) (pastC vals) w hI.dev cA cc hcv lA d.log.length lc hlv (deed_c hA).1 hDA Q ?_ ?_ (by omega) (by omega) (by decide) (by decide)).mono ?_
  · intro W N hcW hN hmN hdW
    have hAW := deed_chg hA hcW (fun e => hDA e.symm)
    have hBW := map_chg hmB hcW hBD
    have hlW := (hI.log.chg hcW (fun k hk e => hsm k hk (Or.inl e))).1
    have hdaW : SB W da ld := by
      obtain ⟨A', c', e, hr', h1', h2', h3'⟩ := hda
      refine ⟨A', c', e, hr'.chg hcW (fun a ha e => ?_), h1', h2', h3'⟩
      exact hdaD a.block (by rw [‹da = _›, ha]; rfl) e
    refine (does_append D A m.B d.n _ mB q da ks n cnt tag W hdW hAW rfl hBW d.log ld hlW hdaW hroom (by have := h.low; have := hroom; omega)).mono ?_
    rintro e w2 ⟨l2A, l2c, rfl, hd2, ho2, hc2⟩
    have hND : N ≠ D := map_ne_cells hmN hdW
    have hc02 : Chg (fun k => k = D) w w2 := hcW.trans hc2
    refine ⟨_, rfl, ⟨hd2, rfl, rfl, ⟨aA, ac, hav, ?_⟩, ⟨pA, pc, hpv, ?_⟩, ⟨q, da, ks, n, cnt, tag, deed_chg hA hc02 (fun e => hDA e.symm)⟩⟩, ⟨N, l2A, l2c, hN, by rw [hlv], map_chg hmN hc2 hND, ho2.mono hcW.size, hc02⟩, fun k h1 h2 h3 => hc2.block k h3 (by have := (Array.getElem?_eq_some_iff.1 hI.dev).1; omega)⟩
    · exact own_chg hI.acc.1 hc02 (fun k hk e => row_ne_dev hI.acc.1 (by decide) hI.dev k hk e)
    · exact own_chg hrp0 hc02 (fun k hk e => row_ne_dev hrp0 (by decide) hI.dev k hk e)
  · rintro W f2 N' hacc ⟨N, l2A, l2c, hN, hf2, hmN, ho2, hc2⟩
    have hl := (hI.log.chg hc2 (fun k hk e => hsm k hk (Or.inl e))).1
    have := changed_empty D N 0 f2 (fun _ => none) W hacc.dev (by rw [hf2]) hmN (fun _ => rfl) d.log (d.log ++ ld) (by rw [hf2]; exact hl) (by rw [hf2]; exact ho2.sb)
    have hb : (d.log == d.log ++ ld) = false := by
      rw [beq_eq_false_iff_ne]
      intro e
      exact hne (by simpa using e)
    rw [hb] at this
    exact this
  · rintro e w' ⟨rfl, w2, f2, av, pv, ⟨N, l2A, l2c, hN, hf2, hmN, ho2, hc2⟩, hd2, hdev, hra, hrp, hc', ha', hp'⟩
    subst hf2
    have hcS : Chg (Smal D A m.av m.pv) w w' := (hc2.mono (fun k _ h => Or.inl h)).trans (hc'.mono (fun k _ h => h.elim Or.inl (fun h => Or.inr (Or.inr h))))
    have hz : w.heap.size ≤ w2.heap.size := hc2.size
    have hav' : av.ownBlock = m.av.ownBlock ∨ ∃ k, w.heap.size ≤ k ∧ av.ownBlock = some k := ha'.imp id (fun ⟨k, h1, h2⟩ => ⟨k, by omega, h2⟩)
    have hpv' : pv.ownBlock = m.pv.ownBlock ∨ ∃ k, w.heap.size ≤ k ∧ pv.ownBlock = some k := hp'.imp id (fun ⟨k, h1, h2⟩ => ⟨k, by omega, h2⟩)
    have hraW := own_chg hI.acc.1 hc2 (fun k hk e => row_ne_dev hI.acc.1 (by decide) hI.dev k hk e)
    have hrpW := own_chg hrp0 hc2 (fun k hk e => row_ne_dev hrp0 (by decide) hI.dev k hk e)
    have hND : N ≠ D := by have := (Array.getElem?_eq_some_iff.1 hI.dev).1; omega
    have hmN' : MapIs HC w' N (fun _ => none) 0 := map_chg hmN hc' (fun e => by
      rcases e with e | e | e
      · exact hND e
      · obtain ⟨_, _, hh⟩ := own_heap hraW e
        exact map_ne_cells hmN hh rfl
      · obtain ⟨_, _, hh⟩ := own_heap hrpW e
        exact map_ne_cells hmN hh rfl)
    have hlD : DB w2 (Grown F w w') (.slice l2A (d.log.length + ld.length) l2c) (d.log ++ ld) := DB.own ho2 (fun k h1 h2 => Or.inr ⟨h1, by have := hc'.size; omega⟩)
    have hlD' : DB w' (Grown F w w') (.slice l2A (d.log.length + ld.length) l2c) (d.log ++ ld) := hlD.chg hc' (fun k ⟨cs, fr, hk⟩ e => by
      rcases e with e | e | e
      · subst e
        unfold DevAt at hd2
        rw [hk] at hd2
        injection hd2 with hd2
        injection hd2 with _ hd2
        exact absurd hd2 (by decide)
      · obtain ⟨_, _, hh⟩ := own_heap hraW e
        rw [hk] at hh
        injection hh with hh
        injection hh with _ hh
        exact absurd hh (by decide)
      · obtain ⟨_, _, hh⟩ := own_heap hrpW e
        rw [hk] at hh
        injection hh with hh
        injection hh with _ hh
        exact absurd hh (by decide))
    have hinv := inv_log hI hA vals hvl hrp0 hpc hpF N _ av pv (6, 0, true) (d.log ++ ld) hN hmN' hdev hlD' hra hrp hcS hav' hpv'
    refine ⟨rfl, ⟨hinv, fun k hk => ?_, h.cho, ⟨by simp; omega, by simp; omega, h.few.2.2⟩, by simp; have := hroom; omega⟩, ?_, ?_⟩
    · rcases hk with hk | hk
      · have := h.fit k hk; have := hcS.size; omega
      · exact hk.2
    · refine deed_chg (deed_chg hA hc2 (fun e => hDA e.symm)) hc' (fun e => ?_)
      rcases e with e | e | e
      · exact hDA e.symm
      · exact row_ne_deed hI.acc.1 (by decide) hA A e rfl
      · exact row_ne_deed hrp0 (by decide) hA A e rfl
    · refine hcS.mono (fun k _ hk => ⟨?_, fun ⟨cs, fr, hb⟩ => smal_cells hI.dev hA hI.acc.1 hrp0 hb (by decide) hk⟩)
      rcases hk with rfl | rfl | hk | hk
      · exact Or.inl hI.fD
      · exact Or.inr rfl
      · exact Or.inl (hI.acc.2 k hk)
      · exact Or.inl (hpF k hk)
end Go.Proofs.Ytcbglojjbgenlaa
