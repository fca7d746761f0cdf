/- Get, Read, Append, Put as accesses of a device by no choice. Put as an access of a device by no choice. An awake device's calls: Read, Get, Append, Put, Accesses. An awake device's calls. An awake device's Put. fixed: a device keeps what is written. -/
import Derived.Test.YtcbglojjbgenlaaMdC
import Derived.Test.YtcbglojjbgenlaaMedO
import Derived.Test.YtcbglojjbgenlaaMedP
namespace Go.Proofs.Ytcbglojjbgenlaa
open Go.RowKit Go.MapL Go.ChangeMaps Go.MapKept
set_option linter.unusedSimpArgs false
set_option linter.unusedVariables false

/-- A device that can be asked. -/
structure Awake (w : World) (D : Nat) (F : Nat → Prop) (d : Dv) : Prop where
  inv : Inv w D F d
  fit : ∀ k, F k → k < w.heap.size
  cho : d.cho = []
  few : d.acc.length ≤ 1099511627776 ∧ d.past.length ≤ 1099511627776 ∧ ∀ q, (d.vers q).length ≤ 1099511627776
  low : d.log.length ≤ 1048576

theorem row_slice {w : World} {base n size : Nat} {e : TypeId} {v : Value} {xs : List Value} (h : w.ownsRow base e size v n xs) : ∃ A c, v = .slice A n c := by
  obtain ⟨A, c, e, _⟩ := Src.own h
  exact ⟨A, c, e⟩
theorem row_ne_deed {w : World} {base : Nat} {e : TypeId} {size : Nat} {v : Value} {m : Nat} {ys : List Value} {A : Nat} {kind n cnt : Int} {q tag : H32} {da ks : Value} (hv : w.ownsRow base e size v m ys) (he : e ≠ 86) (hA : DeedAt w A kind q da ks n cnt tag) : ∀ k, v.ownBlock = some k → k ≠ A := by
  rintro k hk rfl
  obtain ⟨c, fr, h⟩ := own_heap hv hk
  unfold DeedAt at hA
  rw [hA] at h
  injection h with h
  injection h with _ h
  exact he h.symm
theorem acc_true (kind r : Int) (hr : r = 0) : acC (kind, 0, true) = [.int .i64 kind, .int .i64 0, .bool (r == 0)] := by subst hr; rfl

/-- what an awake device is, taken apart -/
theorem Awake.parts {w : World} {D : Nat} {F : Nat → Prop} {d : Dv} (h : Awake w D F d) : ∃ m, Core w D F (fun k => k = m.B ∨ k = m.V) d m ∧ (∃ cA cc, m.cv = .slice cA 0 cc) ∧ (∃ lA lc, m.lv = .slice lA d.log.length lc) ∧ (∃ aA ac, m.av = .slice aA d.acc.length ac) ∧
    ∃ vals pA pc, m.pv = .slice pA d.past.length pc ∧ vals.length = d.past.length ∧ w.ownsRow 0 82 2 m.pv d.past.length (pastC vals) ∧ (∀ i (h : i < d.past.length) (h' : i < vals.length), PcAt w F (fun k => k = m.B ∨ k = m.V) vals[i].1 vals[i].2 d.past[i]) ∧ ∀ k, m.pv.ownBlock = some k → F k := by
  obtain ⟨m, hI⟩ := h.inv
  obtain ⟨vals, h1, h2, h3, h4⟩ := hI.past
  obtain ⟨pA, pc, e⟩ := row_slice h2
  obtain ⟨cA, cc, ec, _⟩ := hI.cho.1
  obtain ⟨lA, lc, el, _⟩ := hI.log.1
  obtain ⟨aA, ac, ea⟩ := row_slice hI.acc.1
  exact ⟨m, hI, ⟨cA, cc, by rw [ec, h.cho]; rfl⟩, ⟨lA, lc, el⟩, ⟨aA, ac, ea⟩, vals, pA, pc, e, h1, h2, h3, h4⟩

theorem acc_read {w : World} {D A : Nat} {F : Nat → Prop} {d : Dv} (h : Awake w D F d) {q tag : H32} {da ks : Value} {n cnt : Int} (hA : DeedAt w A 5 q da ks n cnt tag) (hfew : d.acc.length < 1099511627776) :
    Calls Try.prog 35 #[.pointer (some ⟨D, 0, none⟩), .pointer (some ⟨A, 0, none⟩)] w fun e w' => e = .returned (.int .i64 0) ∧
      Awake w' D (Grown F w w') { d with acc := d.acc ++ [(5, 0, true)] } ∧ (∃ v, DeedAt w' A 5 q v ks n cnt tag ∧ DB w' (fun _ => True) v d.log) ∧ Chg (fun k => (F k ∨ k = A) ∧ ¬ isBytes w k) w w' := by
  obtain ⟨m, hI, ⟨cA, cc, hcv⟩, ⟨lA, lc, hlv⟩, ⟨aA, ac, hav⟩, vals, pA, pc, hpv, hvl, hrp0, hpc, hpF⟩ := h.parts
  have hDA : D ≠ A := dev_ne_deed hI.dev hA
  have hAlt : A < w.heap.size := (Array.getElem?_eq_some_iff.1 hA).1
  obtain ⟨mB, hmB, hrB⟩ := hI.blobs
  have hBD : m.B ≠ D := map_ne_cells hmB hI.dev
  have hBA : m.B ≠ A := map_ne_cells hmB hA
  let Q : World → Fd → Prop := fun w2 f2 => ∃ N, w.heap.size ≤ N ∧ f2 = { fdOf d m with nb := .map (some N), nl := m.lv } ∧ MapIs HC w2 N (fun _ => none) 0 ∧ DeedAt w2 A 5 q m.lv ks n cnt tag ∧ Chg (fun k => k = D ∨ k = A) w w2
  have hsm : ∀ k, isBytes w k → ¬ (k = D ∨ k = A) := by
    rintro k ⟨cs, fr, hk⟩ (rfl | rfl)
    · have := hI.dev
      unfold DevAt at this
      rw [hk] at this
      injection this with this
      injection this with _ this
      exact absurd this (by decide)
    · unfold DeedAt at hA
      rw [hk] at hA
      injection hA with hA
      injection hA with _ hA
      exact absurd hA (by decide)
  refine (access_no D A (fdOf d m) 5 0 d.acc.length d.past.length (d.acc.flatMap acC) (pastC vals) w hI.dev cA cc hcv lA d.log.length lc hlv (deed_c hA).1 hDA Q ?_ ?_ (by omega) h.few.2.1 (by decide) (by decide)).mono ?_
  · intro W N hcW hN hmN hdW
    have hAW := deed_chg hA hcW (fun e => hDA e.symm)
    have hBW := map_chg hmB hcW hBD
    refine (does_read D A m.B d.n _ mB q da ks n cnt tag W hdW hAW rfl hBW lA d.log.length lc hlv).mono ?_
    rintro e w2 ⟨rfl, hA2, hc2⟩
    have hNA : N ≠ A := map_ne_cells hmN hAW
    have hc02 : Chg (fun k => k = D ∨ k = A) w w2 := (hcW.mono (fun k _ h => Or.inl h)).trans (hc2.mono (fun k _ h => Or.inr h))
    refine ⟨_, rfl, ⟨dev_chg hdW hc2 hDA, rfl, rfl, ⟨aA, ac, hav, ?_⟩, ⟨pA, pc, hpv, ?_⟩, ⟨q, _, ks, n, cnt, tag, hA2⟩⟩, ⟨N, hN, ?_, map_chg hmN hc2 hNA, ?_, hc02⟩, fun k h1 h2 h3 => hc2.block k h3 (by omega)⟩
    · exact own_chg hI.acc.1 hc02 (fun k hk => by rintro (e | e); exact row_ne_dev hI.acc.1 (by decide) hI.dev k hk e; exact row_ne_deed hI.acc.1 (by decide) hA k hk e)
    · exact own_chg hrp0 hc02 (fun k hk => by rintro (e | e); exact row_ne_dev hrp0 (by decide) hI.dev k hk e; exact row_ne_deed hrp0 (by decide) hA k hk e)
    · rw [hlv]
    · rw [hlv]; exact hA2
  · rintro W f2 N' hacc ⟨N, hN, hf2, hmN, hA2, hc2⟩
    have hl := (hI.log.chg hc2 hsm).1
    have := changed_empty D N 0 f2 (fun _ => none) W hacc.dev (by rw [hf2]) hmN (fun _ => rfl) d.log d.log (by rw [hf2]; exact hl) (by rw [hf2]; exact hl)
    simpa using this
  · rintro e w' ⟨rfl, w2, f2, av, pv, ⟨N, hN, hf2, hmN, hA2, hc2⟩, hd2, hdev, hra, hrp, hc', ha', hp'⟩
    subst hf2
    have hcS : Chg (Smal D A m.av m.pv) w w' := (hc2.mono (fun k _ h => h.elim Or.inl (fun h => Or.inr (Or.inl h)))).trans (hc'.mono (fun k _ h => h.elim Or.inl (fun h => Or.inr (Or.inr h))))
    have hz : w.heap.size ≤ w2.heap.size := hc2.size
    have hav' : av.ownBlock = m.av.ownBlock ∨ ∃ k, w.heap.size ≤ k ∧ av.ownBlock = some k := ha'.imp id (fun ⟨k, h1, h2⟩ => ⟨k, by omega, h2⟩)
    have hpv' : pv.ownBlock = m.pv.ownBlock ∨ ∃ k, w.heap.size ≤ k ∧ pv.ownBlock = some k := hp'.imp id (fun ⟨k, h1, h2⟩ => ⟨k, by omega, h2⟩)
    have hinv := inv_same hI hA vals hvl hrp0 hpc hpF (.map (some N)) m.lv av pv (5, 0, true) hdev hra hrp hcS hav' hpv'
    refine ⟨rfl, ⟨hinv, fun k hk => ?_, h.cho, ⟨by simp; omega, h.few.2⟩, h.low⟩, ⟨m.lv, ?_, ?_⟩, ?_⟩
    · rcases hk with hk | hk
      · have := h.fit k hk; have := hcS.size; omega
      · exact hk.2
    · refine deed_chg hA2 hc' (fun e => ?_)
      rcases e with e | e | e
      · exact hDA e.symm
      · exact row_ne_deed hI.acc.1 (by decide) hA A e rfl
      · exact row_ne_deed hrp0 (by decide) hA A e rfl
    · have hsb : ∀ k, isBytes w k → ¬ Smal D A m.av m.pv k := fun k ⟨cs, fr, hk⟩ => smal_cells hI.dev hA hI.acc.1 hrp0 hk (by decide)
      exact (hI.log.chg hcS hsb).mono (fun _ _ => trivial)
    · refine hcS.mono (fun k _ hk => ⟨?_, fun ⟨cs, fr, hb⟩ => smal_cells hI.dev hA hI.acc.1 hrp0 hb (by decide) hk⟩)
      rcases hk with rfl | rfl | hk | hk
      · exact Or.inl hI.fD
      · exact Or.inr rfl
      · exact Or.inl (hI.acc.2 k hk)
      · exact Or.inl (hpF k hk)
theorem acc_get {w : World} {D A : Nat} {F : Nat → Prop} {d : Dv} (h : Awake w D F d) {q tag : H32} {da ks : Value} {n cnt : Int} (hA : DeedAt w A 1 q da ks n cnt tag) (l : Bs) (hl : d.blobs q = some l) (hfew : d.acc.length < 1099511627776) :
    Calls Try.prog 35 #[.pointer (some ⟨D, 0, none⟩), .pointer (some ⟨A, 0, none⟩)] w fun e w' => e = .returned (.int .i64 0) ∧
      Awake w' D (Grown F w w') { d with acc := d.acc ++ [(1, 0, true)] } ∧ (∃ v, DeedAt w' A 1 q v ks n cnt tag ∧ DB w' (fun _ => True) v l) ∧ Chg (fun k => (F k ∨ k = A) ∧ ¬ isBytes w k) w w' := by
  obtain ⟨m, hI, ⟨cA, cc, hcv⟩, ⟨lA, lc, hlv⟩, ⟨aA, ac, hav⟩, vals, pA, pc, hpv, hvl, hrp0, hpc, hpF⟩ := h.parts
  have hDA : D ≠ A := dev_ne_deed hI.dev hA
  have hAlt : A < w.heap.size := (Array.getElem?_eq_some_iff.1 hA).1
  obtain ⟨mB, hmB, hrB⟩ := hI.blobs
  have hRq := hrB q
  rw [hl] at hRq
  obtain ⟨x, hx, hxd⟩ := hRq.some
  obtain ⟨xA, xc, rfl, hx0⟩ := hxd.1
  have hxd' : DB w F (.slice xA l.length xc) l := hxd
  have hBD : m.B ≠ D := map_ne_cells hmB hI.dev
  have hBA : m.B ≠ A := map_ne_cells hmB hA
  let Q : World → Fd → Prop := fun w2 f2 => ∃ N, w.heap.size ≤ N ∧ f2 = { fdOf d m with nb := .map (some N), nl := m.lv } ∧ MapIs HC w2 N (fun _ => none) 0 ∧ DeedAt w2 A 1 q (.slice xA l.length xc) ks n cnt tag ∧ Chg (fun k => k = D ∨ k = A) w w2
  have hsm : ∀ k, isBytes w k → ¬ (k = D ∨ k = A) := by
    rintro k ⟨cs, fr, hk⟩ (rfl | rfl)
    · have := hI.dev
      unfold DevAt at this
      rw [hk] at this
      injection this with this
      injection this with _ this
      exact absurd this (by decide)
    · unfold DeedAt at hA
      rw [hk] at hA
      injection hA with hA
      injection hA with _ hA
      exact absurd hA (by decide)
  refine (access_no D A (fdOf d m) 1 0 d.acc.length d.past.length (d.acc.flatMap acC) (pastC vals) w hI.dev cA cc hcv lA d.log.length lc hlv (deed_c hA).1 hDA Q ?_ ?_ (by omega) h.few.2.1 (by decide) (by decide)).mono ?_
  · intro W N hcW hN hmN hdW
    have hAW := deed_chg hA hcW (fun e => hDA e.symm)
    have hBW := map_chg hmB hcW hBD
    refine (does_get D A m.B d.n _ mB q da ks n cnt tag W hdW hAW rfl hBW xA l.length xc hx).mono ?_
    rintro e w2 ⟨rfl, hA2, hc2⟩
    have hNA : N ≠ A := map_ne_cells hmN hAW
    have hc02 : Chg (fun k => k = D ∨ k = A) w w2 := (hcW.mono (fun k _ h => Or.inl h)).trans (hc2.mono (fun k _ h => Or.inr h))
    refine ⟨_, rfl, ⟨dev_chg hdW hc2 hDA, rfl, rfl, ⟨aA, ac, hav, ?_⟩, ⟨pA, pc, hpv, ?_⟩, ⟨q, _, ks, n, cnt, tag, hA2⟩⟩, ⟨N, hN, ?_, map_chg hmN hc2 hNA, ?_, hc02⟩, fun k h1 h2 h3 => hc2.block k h3 (by omega)⟩
    · exact own_chg hI.acc.1 hc02 (fun k hk => by rintro (e | e); exact row_ne_dev hI.acc.1 (by decide) hI.dev k hk e; exact row_ne_deed hI.acc.1 (by decide) hA k hk e)
    · exact own_chg hrp0 hc02 (fun k hk => by rintro (e | e); exact row_ne_dev hrp0 (by decide) hI.dev k hk e; exact row_ne_deed hrp0 (by decide) hA k hk e)
    · rw [hlv]
    · exact hA2
  · rintro W f2 N' hacc ⟨N, hN, hf2, hmN, hA2, hc2⟩
    have hl := (hI.log.chg hc2 hsm).1
    have := changed_empty D N 0 f2 (fun _ => none) W hacc.dev (by rw [hf2]) hmN (fun _ => rfl) d.log d.log (by rw [hf2]; exact hl) (by rw [hf2]; exact hl)
    simpa using this
  · rintro e w' ⟨rfl, w2, f2, av, pv, ⟨N, hN, hf2, hmN, hA2, hc2⟩, hd2, hdev, hra, hrp, hc', ha', hp'⟩
    subst hf2
    have hcS : Chg (Smal D A m.av m.pv) w w' := (hc2.mono (fun k _ h => h.elim Or.inl (fun h => Or.inr (Or.inl h)))).trans (hc'.mono (fun k _ h => h.elim Or.inl (fun h => Or.inr (Or.inr h))))
    have hz : w.heap.size ≤ w2.heap.size := hc2.size
    have hav' : av.ownBlock = m.av.ownBlock ∨ ∃ k, w.heap.size ≤ k ∧ av.ownBlock = some k := ha'.imp id (fun ⟨k, h1, h2⟩ => ⟨k, by omega, h2⟩)
    have hpv' : pv.ownBlock = m.pv.ownBlock ∨ ∃ k, w.heap.size ≤ k ∧ pv.ownBlock = some k := hp'.imp id (fun ⟨k, h1, h2⟩ => ⟨k, by omega, h2⟩)
    have hinv := inv_same hI hA vals hvl hrp0 hpc hpF (.map (some N)) m.lv av pv (1, 0, true) hdev hra hrp hcS hav' hpv'
    refine ⟨rfl, ⟨hinv, fun k hk => ?_, h.cho, ⟨by simp; omega, h.few.2⟩, h.low⟩, ⟨.slice xA l.length xc, ?_, ?_⟩, ?_⟩
    · rcases hk with hk | hk
      · have := h.fit k hk; have := hcS.size; omega
      · exact hk.2
    · refine deed_chg hA2 hc' (fun e => ?_)
      rcases e with e | e | e
      · exact hDA e.symm
      · exact row_ne_deed hI.acc.1 (by decide) hA A e rfl
      · exact row_ne_deed hrp0 (by decide) hA A e rfl
    · have hsb : ∀ k, isBytes w k → ¬ Smal D A m.av m.pv k := fun k ⟨cs, fr, hk⟩ => smal_cells hI.dev hA hI.acc.1 hrp0 hk (by decide)
      exact (hxd'.chg hcS hsb).mono (fun _ _ => trivial)
    · refine hcS.mono (fun k _ hk => ⟨?_, fun ⟨cs, fr, hb⟩ => smal_cells hI.dev hA hI.acc.1 hrp0 hb (by decide) hk⟩)
      rcases hk with rfl | rfl | hk | hk
      · exact Or.inl hI.fD
      · exact Or.inr rfl
      · exact Or.inl (hI.acc.2 k hk)
      · exact Or.inl (hpF k hk)
theorem acc_append {w : World} {D A : Nat} {F : Nat → Prop} {d : Dv} (h : Awake w D F d) {q tag : H32} {da ks : Value} {n cnt : Int} (hA : DeedAt w A 6 q da ks n cnt tag) (ld : Bs) (hda : SB w da ld) (hdaD : ∀ a, vBlock da = some a → a ≠ D) (hroom : (d.log.length : Int) + ld.length ≤ d.room) (hr2 : d.room ≤ 1048576) (hne : ld ≠ []) (hfew : d.acc.length < 1099511627776 ∧ d.past.length < 1099511627776) :
    Calls Try.prog 35 #[.pointer (some ⟨D, 0, none⟩), .pointer (some ⟨A, 0, none⟩)] w fun e w' => e = .returned (.int .i64 0) ∧
      Awake w' D (Grown F w w') { d with log := d.log ++ ld, acc := d.acc ++ [(6, 0, true)], past := d.past ++ [⟨fun _ => none, 0, d.log⟩] } ∧ DeedAt w' A 6 q da ks n cnt tag ∧ Chg (fun k => (F k ∨ k = A) ∧ ¬ isBytes w k) w w' := by
  obtain ⟨m, hI, ⟨cA, cc, hcv⟩, ⟨lA, lc, hlv⟩, ⟨aA, ac, hav⟩, vals, pA, pc, hpv, hvl, hrp0, hpc, hpF⟩ := h.parts
  have hDA : D ≠ A := dev_ne_deed hI.dev hA
  have hAlt : A < w.heap.size := (Array.getElem?_eq_some_iff.1 hA).1
  obtain ⟨mB, hmB, hrB⟩ := hI.blobs
  have hBD : m.B ≠ D := map_ne_cells hmB hI.dev
  have hBA : m.B ≠ A := map_ne_cells hmB hA
  let Q : World → Fd → Prop := fun w2 f2 => ∃ N l2A l2c, w.heap.size ≤ N ∧ f2 = { fdOf d m with log := .slice l2A (d.log.length + ld.length) l2c, nb := .map (some N), nl := m.lv } ∧ MapIs HC w2 N (fun _ => none) 0 ∧ OwnB w2 w.heap.size (.slice l2A (d.log.length + ld.length) l2c) (d.log ++ ld) ∧ Chg (fun k => k = D) w w2
  have hsm : ∀ k, isBytes w k → ¬ (k = D ∨ k = A) := by
    rintro k ⟨cs, fr, hk⟩ (rfl | rfl)
    · have := hI.dev
      unfold DevAt at this
      rw [hk] at this
      injection this with this
      injection this with _ this
      exact absurd this (by decide)
    · unfold DeedAt at hA
      rw [hk] at hA
      injection hA with hA
      injection hA with _ hA
      exact absurd hA (by decide)
  refine (access_ch D A (fdOf d m) 6 0 d.acc.length d.past.length (d.acc.flatMap acC) (pastC vals) w hI.dev cA cc hcv lA d.log.length lc hlv (deed_c hA).1 hDA Q ?_ ?_ (by omega) (by omega) (by decide) (by decide)).mono ?_
  · intro W N hcW hN hmN hdW
    have hAW := deed_chg hA hcW (fun e => hDA e.symm)
    have hBW := map_chg hmB hcW hBD
    have hlW := (hI.log.chg hcW (fun k hk e => hsm k hk (Or.inl e))).1
    have hdaW : SB W da ld := by
      obtain ⟨A', c', e, hr', h1', h2', h3'⟩ := hda
      refine ⟨A', c', e, hr'.chg hcW (fun a ha e => ?_), h1', h2', h3'⟩
      exact hdaD a.block (by rw [‹da = _›, ha]; rfl) e
    refine (does_append D A m.B d.n _ mB q da ks n cnt tag W hdW hAW rfl hBW d.log ld hlW hdaW hroom (by have := h.low; have := hroom; omega)).mono ?_
    rintro e w2 ⟨l2A, l2c, rfl, hd2, ho2, hc2⟩
    have hND : N ≠ D := map_ne_cells hmN hdW
    have hc02 : Chg (fun k => k = D) w w2 := hcW.trans hc2
    refine ⟨_, rfl, ⟨hd2, rfl, rfl, ⟨aA, ac, hav, ?_⟩, ⟨pA, pc, hpv, ?_⟩, ⟨q, da, ks, n, cnt, tag, deed_chg hA hc02 (fun e => hDA e.symm)⟩⟩, ⟨N, l2A, l2c, hN, by rw [hlv], map_chg hmN hc2 hND, ho2.mono hcW.size, hc02⟩, fun k h1 h2 h3 => hc2.block k h3 (by have := (Array.getElem?_eq_some_iff.1 hI.dev).1; omega)⟩
    · exact own_chg hI.acc.1 hc02 (fun k hk e => row_ne_dev hI.acc.1 (by decide) hI.dev k hk e)
    · exact own_chg hrp0 hc02 (fun k hk e => row_ne_dev hrp0 (by decide) hI.dev k hk e)
  · rintro W f2 N' hacc ⟨N, l2A, l2c, hN, hf2, hmN, ho2, hc2⟩
    have hl := (hI.log.chg hc2 (fun k hk e => hsm k hk (Or.inl e))).1
    have := changed_empty D N 0 f2 (fun _ => none) W hacc.dev (by rw [hf2]) hmN (fun _ => rfl) d.log (d.log ++ ld) (by rw [hf2]; exact hl) (by rw [hf2]; exact ho2.sb)
    have hb : (d.log == d.log ++ ld) = false := by
      rw [beq_eq_false_iff_ne]
      intro e
      exact hne (by simpa using e)
    rw [hb] at this
    exact this
  · rintro e w' ⟨rfl, w2, f2, av, pv, ⟨N, l2A, l2c, hN, hf2, hmN, ho2, hc2⟩, hd2, hdev, hra, hrp, hc', ha', hp'⟩
    subst hf2
    have hcS : Chg (Smal D A m.av m.pv) w w' := (hc2.mono (fun k _ h => Or.inl h)).trans (hc'.mono (fun k _ h => h.elim Or.inl (fun h => Or.inr (Or.inr h))))
    have hz : w.heap.size ≤ w2.heap.size := hc2.size
    have hav' : av.ownBlock = m.av.ownBlock ∨ ∃ k, w.heap.size ≤ k ∧ av.ownBlock = some k := ha'.imp id (fun ⟨k, h1, h2⟩ => ⟨k, by omega, h2⟩)
    have hpv' : pv.ownBlock = m.pv.ownBlock ∨ ∃ k, w.heap.size ≤ k ∧ pv.ownBlock = some k := hp'.imp id (fun ⟨k, h1, h2⟩ => ⟨k, by omega, h2⟩)
    have hraW := own_chg hI.acc.1 hc2 (fun k hk e => row_ne_dev hI.acc.1 (by decide) hI.dev k hk e)
    have hrpW := own_chg hrp0 hc2 (fun k hk e => row_ne_dev hrp0 (by decide) hI.dev k hk e)
    have hND : N ≠ D := by have := (Array.getElem?_eq_some_iff.1 hI.dev).1; omega
    have hmN' : MapIs HC w' N (fun _ => none) 0 := map_chg hmN hc' (fun e => by
      rcases e with e | e | e
      · exact hND e
      · obtain ⟨_, _, hh⟩ := own_heap hraW e
        exact map_ne_cells hmN hh rfl
      · obtain ⟨_, _, hh⟩ := own_heap hrpW e
        exact map_ne_cells hmN hh rfl)
    have hlD : DB w2 (Grown F w w') (.slice l2A (d.log.length + ld.length) l2c) (d.log ++ ld) := DB.own ho2 (fun k h1 h2 => Or.inr ⟨h1, by have := hc'.size; omega⟩)
    have hlD' : DB w' (Grown F w w') (.slice l2A (d.log.length + ld.length) l2c) (d.log ++ ld) := hlD.chg hc' (fun k ⟨cs, fr, hk⟩ e => by
      rcases e with e | e | e
      · subst e
        unfold DevAt at hd2
        rw [hk] at hd2
        injection hd2 with hd2
        injection hd2 with _ hd2
        exact absurd hd2 (by decide)
      · obtain ⟨_, _, hh⟩ := own_heap hraW e
        rw [hk] at hh
        injection hh with hh
        injection hh with _ hh
        exact absurd hh (by decide)
      · obtain ⟨_, _, hh⟩ := own_heap hrpW e
        rw [hk] at hh
        injection hh with hh
        injection hh with _ hh
        exact absurd hh (by decide))
    have hinv := inv_log hI hA vals hvl hrp0 hpc hpF N _ av pv (6, 0, true) (d.log ++ ld) hN hmN' hdev hlD' hra hrp hcS hav' hpv'
    refine ⟨rfl, ⟨hinv, fun k hk => ?_, h.cho, ⟨by simp; omega, by simp; omega, h.few.2.2⟩, by simp; have := hroom; omega⟩, ?_, ?_⟩
    · rcases hk with hk | hk
      · have := h.fit k hk; have := hcS.size; omega
      · exact hk.2
    · refine deed_chg (deed_chg hA hc2 (fun e => hDA e.symm)) hc' (fun e => ?_)
      rcases e with e | e | e
      · exact hDA e.symm
      · exact row_ne_deed hI.acc.1 (by decide) hA A e rfl
      · exact row_ne_deed hrp0 (by decide) hA A e rfl
    · refine hcS.mono (fun k _ hk => ⟨?_, fun ⟨cs, fr, hb⟩ => smal_cells hI.dev hA hI.acc.1 hrp0 hb (by decide) hk⟩)
      rcases hk with rfl | rfl | hk | hk
      · exact Or.inl hI.fD
      · exact Or.inr rfl
      · exact Or.inl (hI.acc.2 k hk)
      · exact Or.inl (hpF k hk)
end Go.Proofs.Ytcbglojjbgenlaa
namespace Go.Proofs.Ytcbglojjbgenlaa
open Go.RowKit Go.MapL Go.ChangeMaps Go.MapKept
set_option linter.unusedSimpArgs false
set_option linter.unusedVariables false

theorem chg_id {w : World} (S : Nat → Prop) : Chg S w w := Chg.refl _ _
theorem Inv.mono {w : World} {D : Nat} {F F' : Nat → Prop} {d : Dv} (h : Inv w D F d) (hF : ∀ k, F k → F' k) : Inv w D F' d := by
  obtain ⟨m, hI⟩ := h
  have hc : Chg (fun _ => False) w w := Chg.refl _ _
  have hn : ∀ k, isBytes w k → ¬ (fun _ : Nat => False) k := fun _ _ h => h
  obtain ⟨vals, h1, h2, h3, h4⟩ := hI.past
  exact ⟨m, hI.dev, hF _ hI.fD, hF _ hI.fB, hF _ hI.fV, hI.xB, hI.xV, hI.bv, hI.blobs.chg hc (fun h => h) hn hF, hI.vers.chg hc (fun h => h) (fun _ _ _ _ h => h) hn hF, hI.log.mono hF,
    hI.cho.chg hc (fun _ _ _ _ h => h) hF, ⟨hI.acc.1, fun k hk => hF k (hI.acc.2 k hk)⟩, ⟨vals, h1, h2, fun i hi hi' => (h3 i hi hi').chg hc (fun _ _ _ _ h => h.elim) hn hF, fun k hk => hF k (h4 k hk)⟩⟩
theorem putV_iso {m : H32 → Option Value} {q : H32} {v : Value} : (putV m q v q).isSome = true := by rw [putV_same]; rfl

theorem acc_put {w : World} {D A : Nat} {F : Nat → Prop} {d : Dv} (h : Awake w D F d) {q tag : H32} {ks : Value} {n cnt : Int} {dA : Option Addr} {dc : Nat} {l : Bs} (hA : DeedAt w A 2 q (.slice dA l.length dc) ks n cnt tag) (hdb : DB w F (.slice dA l.length dc) l)
    (hno : d.blobs q = none) (hroom : (d.n : Int) < d.slots) (hfew : d.acc.length < 1099511627776 ∧ d.past.length < 1099511627776 ∧ ∀ q, (d.vers q).length < 1099511627776) :
    Calls Try.prog 35 #[.pointer (some ⟨D, 0, none⟩), .pointer (some ⟨A, 0, none⟩)] w fun e w' => e = .returned (.int .i64 0) ∧
      Awake w' D (Grown F w w') { d with blobs := updO d.blobs q (some l), n := d.n + 1, vers := updL d.vers q (d.vers q ++ [l]), acc := d.acc ++ [(2, 0, true)], past := d.past ++ [⟨updO (fun _ => none) q (some (d.blobs q)), 1, d.log⟩] } ∧ Chg (fun k => (F k ∨ k = A) ∧ ¬ isBytes w k) w w' := by
  obtain ⟨m, hI, ⟨cA, cc, hcv⟩, ⟨lA, lc, hlv⟩, ⟨aA, ac, hav⟩, vals, pA, pc, hpv, hvl, hrp0, hpc, hpF⟩ := h.parts
  have hDA : D ≠ A := dev_ne_deed hI.dev hA
  have hAlt : A < w.heap.size := (Array.getElem?_eq_some_iff.1 hA).1
  have hDlt : D < w.heap.size := (Array.getElem?_eq_some_iff.1 hI.dev).1
  obtain ⟨mB, hmB, hrB⟩ := hI.blobs
  obtain ⟨mV, nV, hmV, h1, h2⟩ := hI.vers
  have hBlt := hmB.lt
  have hVlt := hmV.lt
  have hBD : m.B ≠ D := map_ne_cells hmB hI.dev
  have hBA : m.B ≠ A := map_ne_cells hmB hA
  have hVD : m.V ≠ D := map_ne_cells hmV hI.dev
  have hVA : m.V ≠ A := map_ne_cells hmV hA
  have hRq := hrB q
  rw [hno] at hRq
  have hmBq : mB q = none := by
    cases e : mB q with
    | none => rfl
    | some a => rw [e] at hRq; exact hRq.elim
  obtain ⟨vo, vals9, hvo, hown9, hv9, hvoF⟩ : ∃ vo vals9, (mV q).getD (.slice none 0 0) = vo ∧ w.ownsRow 0 29 1 vo (d.vers q).length vals9 ∧ (∀ i (h : i < (d.vers q).length) (h' : i < vals9.length), DB w F vals9[i] (d.vers q)[i]) ∧ ∀ k, vo.ownBlock = some k → F k := by
    rcases h1 q with ⟨e, e'⟩ | ⟨v1, e, vals9, a1, a2, a3⟩
    · refine ⟨_, [], rfl, ?_, fun i hi => ?_, fun k hk => ?_⟩
      · rw [e, e']
        exact own_nil _ _ _ _
      · rw [e'] at hi
        simp at hi
      · rw [e] at hk
        simp [Value.ownBlock] at hk
    · exact ⟨v1, vals9, by rw [e]; rfl, a1, a2, a3⟩
  obtain ⟨oA, oc, hvs⟩ := row_slice hown9
  subst hvs
  have hoD : (Value.slice oA (d.vers q).length oc).ownBlock ≠ some D := fun e => row_ne_dev hown9 (by decide) hI.dev D e rfl
  have hoA : (Value.slice oA (d.vers q).length oc).ownBlock ≠ some A := fun e => row_ne_deed hown9 (by decide) hA A e rfl
  let R : Nat → Prop := fun k => k = D ∨ k = m.B ∨ k = m.V ∨ (Value.slice oA (d.vers q).length oc).ownBlock = some k
  let Q : World → Fd → Prop := fun w2 f2 => ∃ N v9 nV', w.heap.size ≤ N ∧ f2 = { fdOf d m with nb := .map (some N), nl := m.lv } ∧ MapIs HC w2 m.B (putV mB q (.slice dA l.length dc)) (d.n + 1) ∧ MapIs HC w2 N (putV (fun _ => none) q (.agg #[.slice none 0 0, .bool false])) 1 ∧
    MapIs HC w2 m.V (putV mV q v9) nV' ∧ w2.ownsRow 0 29 1 v9 ((d.vers q).length + 1) (vals9 ++ [.slice dA l.length dc]) ∧ (v9.ownBlock = (Value.slice oA (d.vers q).length oc).ownBlock ∨ ∃ k, w.heap.size ≤ k ∧ v9.ownBlock = some k) ∧ Chg R w w2
  have hrow : ∀ {e : TypeId} {size : Nat} {v : Value} {n : Nat} {xs : List Value}, w.ownsRow 0 e size v n xs → e ≠ 84 → e ≠ 29 → ∀ k, v.ownBlock = some k → ¬ R k := by
    intro e size v n xs hv he1 he2 k hk hR
    rcases hR with hR | hR | hR | hR
    · exact row_ne_dev hv he1 hI.dev k hk hR
    · obtain ⟨_, _, hh⟩ := own_heap hv hk
      exact map_ne_cells hmB hh hR.symm
    · obtain ⟨_, _, hh⟩ := own_heap hv hk
      exact map_ne_cells hmV hh hR.symm
    · exact row_ne_row hv hown9 he2 k hk hR
  refine (access_ch D A (fdOf d m) 2 0 d.acc.length d.past.length (d.acc.flatMap acC) (pastC vals) w hI.dev cA cc hcv lA d.log.length lc hlv (deed_c hA).1 hDA Q ?_ ?_ (by omega) (by omega) (by decide) (by decide)).mono ?_
  · intro W N hcW hN hmN hdW
    have hAW := deed_chg hA hcW (fun e => hDA e.symm)
    have hBW := map_chg hmB hcW hBD
    have hVW := map_chg hmV hcW hVD
    have hoW := own_chg hown9 hcW (fun k hk e => hoD (e ▸ hk))
    refine (does_put D A m.B N m.V d.n 0 nV _ mB (fun _ => none) mV q dA l.length dc ks n cnt tag W hdW hAW rfl rfl rfl (by omega) (fun e => hI.bv e.symm) (by omega) hBW hmN hVW rfl (Or.inr hroom) none 0 0 false (by rw [hmBq]; rfl) (by rw [hmBq]; rfl) (d.n + 1) (by rw [hmBq]; rfl) oA _ oc hvo vals9 hoW (h.few.2.2 q) hoD hoA).mono ?_
    rintro e w2 ⟨v9, nV', rfl, hB2, hN2, hV2, ho2, hk2, hc2⟩
    have hAR : ¬ R A := by
      rintro (e | e | e | e)
      · exact hDA e.symm
      · exact hBA e.symm
      · exact hVA e.symm
      · exact hoA e
    have hc02 : Chg R w w2 := by
      have a1 : Chg (fun k => R k ∨ k = N) w w2 := (hcW.mono (fun k _ h => Or.inl (Or.inl h))).trans (hc2.mono (fun k _ h => by
        rcases h with h | h | h | h
        · exact Or.inl (Or.inr (Or.inl h))
        · exact Or.inr h
        · exact Or.inl (Or.inr (Or.inr (Or.inl h)))
        · exact Or.inl (Or.inr (Or.inr (Or.inr h)))))
      exact a1.mono (fun k hk h => h.elim id (fun h => by omega))
    refine ⟨_, rfl, ⟨dev_chg hdW hc2 ?_, rfl, rfl, ⟨aA, ac, hav, own_chg hI.acc.1 hc02 (hrow hI.acc.1 (by decide) (by decide))⟩, ⟨pA, pc, hpv, own_chg hrp0 hc02 (hrow hrp0 (by decide) (by decide))⟩, ⟨q, _, ks, n, cnt, tag, deed_chg hA hc02 hAR⟩⟩, ⟨N, v9, nV', hN, by rw [hlv], hB2, hN2, hV2, ho2, ?_, hc02⟩, fun k g1 g2 g3 => hc2.block k g3 ?_⟩
    · rintro (e | e | e | e)
      · exact hBD e.symm
      · omega
      · exact hVD e.symm
      · exact hoD e
    · exact hk2.imp id (fun ⟨k, a, b⟩ => ⟨k, by have := hcW.size; omega, b⟩)
    · rintro (e | e | e | e)
      · omega
      · exact g2 e
      · omega
      · obtain ⟨_, _, hh⟩ := own_heap hown9 e
        have := (Array.getElem?_eq_some_iff.1 hh).1
        omega
  · rintro W f2 N' hacc ⟨N, v9, nV', hN, hf2, hB2, hN2, hV2, ho2, hk2, hc2⟩
    exact changed_one D m.B N (d.n + 1) f2 _ _ q W hacc.dev (by rw [hf2]; rfl) (by rw [hf2]) hB2 hN2 none 0 0 false (putV_same _ _ _) (fun q' hq => putV_other _ _ hq) dA l.length dc (by rw [putV_same]; rfl) putV_iso
  · rintro e w' ⟨rfl, w2, f2, av, pv, ⟨N, v9, nV', hN, hf2, hB2, hN2, hV2, ho2, hk2, hc2⟩, hd2, hdev, hra, hrp, hc', ha', hp'⟩
    subst hf2
    have hcS : Chg (fun k => Smal D A m.av m.pv k ∨ k = m.B ∨ k = m.V ∨ (Value.slice oA (d.vers q).length oc).ownBlock = some k) w w' := (hc2.mono (fun k _ h => by
        rcases h with h | h | h | h
        · exact Or.inl (Or.inl h)
        · exact Or.inr (Or.inl h)
        · exact Or.inr (Or.inr (Or.inl h))
        · exact Or.inr (Or.inr (Or.inr h)))).trans (hc'.mono (fun k _ h => h.elim (fun h => Or.inl (Or.inl h)) (fun h => Or.inl (Or.inr (Or.inr h)))))
    have hz : w.heap.size ≤ w2.heap.size := hc2.size
    have hav' : av.ownBlock = m.av.ownBlock ∨ ∃ k, w.heap.size ≤ k ∧ av.ownBlock = some k := ha'.imp id (fun ⟨k, h1, h2⟩ => ⟨k, by omega, h2⟩)
    have hpv' : pv.ownBlock = m.pv.ownBlock ∨ ∃ k, w.heap.size ≤ k ∧ pv.ownBlock = some k := hp'.imp id (fun ⟨k, h1, h2⟩ => ⟨k, by omega, h2⟩)
    have hra2 := own_chg hI.acc.1 hc2 (hrow hI.acc.1 (by decide) (by decide))
    have hrp2 := own_chg hrp0 hc2 (hrow hrp0 (by decide) (by decide))
    have hnm : ∀ {X n : Nat} {mm : H32 → Option Value}, MapIs HC w2 X mm n → ¬ (X = D ∨ m.av.ownBlock = some X ∨ m.pv.ownBlock = some X) := by
      intro X n mm hX e
      rcases e with e | e | e
      · exact map_ne_cells hX hd2 e
      · obtain ⟨_, _, hh⟩ := own_heap hra2 e
        exact map_ne_cells hX hh rfl
      · obtain ⟨_, _, hh⟩ := own_heap hrp2 e
        exact map_ne_cells hX hh rfl
    have ho' : w'.ownsRow 0 29 1 v9 ((d.vers q).length + 1) (vals9 ++ [.slice dA l.length dc]) := own_chg ho2 hc' (fun k hk e => by
      rcases e with e | e | e
      · exact row_ne_dev ho2 (by decide) hd2 k hk e
      · exact row_ne_row ho2 hra2 (by decide) k hk e
      · exact row_ne_row ho2 hrp2 (by decide) k hk e)
    have hcellb : ∀ k, isBytes w k → ¬ (Smal D A m.av m.pv k ∨ k = m.B ∨ k = m.V ∨ (Value.slice oA (d.vers q).length oc).ownBlock = some k) := by
      rintro k ⟨cs, fr, hk⟩ (hS | hS | hS | hS)
      · exact smal_cells hI.dev hA hI.acc.1 hrp0 hk (by decide) hS
      · exact map_ne_cells hmB hk hS.symm
      · exact map_ne_cells hmV hk hS.symm
      · obtain ⟨_, _, hh⟩ := own_heap hown9 hS
        rw [hk] at hh
        injection hh with hh
        injection hh with _ hh
        exact absurd hh (by decide)
    have hinv := inv_put hI hA q vals hvl hrp0 hpc hpF mB mV hrB hBlt hVlt h1 h2 _ v9 (.slice dA l.length dc) (.slice none 0 0) vals9 false l (d.n + 1) nV' hvo (by rw [hmBq]; rfl) (by rw [hmBq]; rfl) hown9 hv9
      (map_chg hB2 hc' (hnm hB2)) (map_chg hV2 hc' (hnm hV2)) ho' hk2 ((hdb.chg hcS hcellb).mono grown_old) N av pv (2, 0, true) hN (map_chg hN2 hc' (hnm hN2)) hdev hra hrp hcS hav' hpv'
    refine ⟨rfl, ⟨hinv, fun k hk => ?_, h.cho, ⟨by simp; omega, by simp; omega, fun q' => ?_⟩, h.low⟩, ?_⟩
    · rcases hk with hk | hk
      · have := h.fit k hk; have := hcS.size; omega
      · exact hk.2
    · show (updL d.vers q (d.vers q ++ [l]) q').length ≤ _
      unfold updL
      split
      · have := hfew.2.2 q
        simp
        omega
      · exact h.few.2.2 q'
    · refine hcS.mono (fun k _ hk => ⟨?_, fun hb => hcellb k hb hk⟩)
      rcases hk with (rfl | rfl | hk | hk) | rfl | rfl | hk
      · exact Or.inl hI.fD
      · exact Or.inr rfl
      · exact Or.inl (hI.acc.2 k hk)
      · exact Or.inl (hpF k hk)
      · exact Or.inl hI.fB
      · exact Or.inl hI.fV
      · exact Or.inl (hvoF k hk)
end Go.Proofs.Ytcbglojjbgenlaa
namespace Go.Proofs.Ytcbglojjbgenlaa
open Go.RowKit Go.MapL Go.ChangeMaps Go.MapKept
set_option linter.unusedSimpArgs false
set_option linter.unusedVariables false

theorem Inv.deed {w w' : World} {D : Nat} {F : Nat → Prop} {d : Dv} (h : Inv w D F d) {X : Nat} (hc : Chg (fun k => k = X) w w') (hX : ∀ o, w.heap[X]? = some o → ∃ c fr, o = .cells c 86 fr) : Inv w' D F d := by
  obtain ⟨m, hI⟩ := h
  have hn : ∀ k c t fr, w.heap[k]? = some (.cells c t fr) → t ≠ 86 → ¬ k = X := by
    rintro k c t fr hk ht rfl
    obtain ⟨c', fr', e⟩ := hX _ hk
    injection e with _ e
    exact ht e
  have hm : ∀ k es clk, w.heap[k]? = some (.map es clk) → ¬ k = X := by
    rintro k es clk hk rfl
    obtain ⟨c', fr', e⟩ := hX _ hk
    cases e
  have hb : ∀ k, isBytes w k → ¬ k = X := fun k ⟨cs, fr, hk⟩ => hn k _ _ _ hk (by decide)
  obtain ⟨mB, hmB, _⟩ := hI.blobs
  obtain ⟨mV, _, hmV, _⟩ := hI.vers
  obtain ⟨es0, clk0, hh0⟩ := map_heap hmB
  obtain ⟨es1, clk1, hh1⟩ := map_heap hmV
  obtain ⟨vals, h1, h2, h3, h4⟩ := hI.past
  have hr : ∀ {e : TypeId} {size : Nat} {v : Value} {n : Nat} {xs : List Value}, w.ownsRow 0 e size v n xs → e ≠ 86 → w'.ownsRow 0 e size v n xs := fun hv he => own_chg hv hc (fun k hk => by
    obtain ⟨_, _, hh⟩ := own_heap hv hk
    exact hn k _ _ _ hh he)
  exact ⟨m, dev_chg hI.dev hc (hn _ _ _ _ hI.dev (by decide)), hI.fD, hI.fB, hI.fV, hI.xB, hI.xV, hI.bv, hI.blobs.chg hc (hm _ _ _ hh0) hb (fun _ h => h), hI.vers.chg hc (hm _ _ _ hh1) (fun k c fr hk => hn k _ _ _ hk (by decide)) hb (fun _ h => h),
    hI.log.chg hc hb, hI.cho.chg hc (fun k c fr hk => hn k _ _ _ hk (by decide)) (fun _ h => h), ⟨hr hI.acc.1 (by decide), hI.acc.2⟩, ⟨vals, h1, hr h2 (by decide), fun i hi hi' => (h3 i hi hi').chg hc (fun k es clk hk hS => absurd hS (hm k es clk hk)) hb (fun _ h => h), h4⟩⟩
theorem Awake.below {w w' : World} {D : Nat} {F : Nat → Prop} {d : Dv} (h : Awake w D F d) (hb : Below w.heap.size w w') : Awake w' D F d :=
  ⟨h.inv.deed (X := w.heap.size) (Below.chg _ hb) (fun o ho => by simp at ho), fun k hk => Nat.lt_of_lt_of_le (h.fit k hk) hb.size, h.cho, h.few, h.low⟩
theorem Awake.mono {w : World} {D : Nat} {F F' : Nat → Prop} {d : Dv} (h : Awake w D F d) (hF : ∀ k, F k → F' k) (hf : ∀ k, F' k → k < w.heap.size) : Awake w D F' d := ⟨h.inv.mono hF, hf, h.cho, h.few, h.low⟩
theorem Awake.dev {w : World} {D : Nat} {F : Nat → Prop} {d : Dv} (h : Awake w D F d) : ∃ f, DevAt w D f ∧ f.down = d.down := by
  obtain ⟨m, hI⟩ := h.inv
  exact ⟨_, hI.dev, rfl⟩

attribute [local go_sem] size_gr cell_gr frozen_gr setCell_gr gr_drew gr_drewN lt_k lt_kc le_k le_kc sub_kc nil29 nil28 nil49 mkmap size_setBlock cell_setB
attribute [local go_sem ↓] Go.wp_at_zero Go.wp_at_succ

theorem closed_live {w : World} {D : Nat} {f : Fd} (h : DevAt w D f) (hd : f.down = false) : Calls Try.prog 34 #[.pointer (some ⟨D, 0, none⟩)] w fun e w' => e = .returned (.int .i64 0) ∧ w' = w := by
  obtain ⟨-, -, -, -, -, hc37, -⟩ := dev_c h
  rw [hd] at hc37
  clear h hd
  go_enter Try.func34, Try.ntmps34
  go_wp2
  go_ret
  exact ⟨rfl, rfl⟩

set_option maxRecDepth 8000 in
/-- run, of an access that is done. -/
theorem run_live (D : Nat) (f : Fd) (kind n cnt : Int) (q tag : H32) (da ks : Value) (w : World) (hD : DevAt w D f) (hdn : f.down = false) (hks : ks.oneCell' = true) (R : Value → World → Prop)
    (hacc : Calls Try.prog 35 #[.pointer (some ⟨D, 0, none⟩), .pointer (some ⟨w.heap.size, 0, none⟩)] ((w.alloc (.cells (deedC kind q da ks n cnt tag).toArray 86)).alloc (.cells Try.zeroCells86 86)) fun e w' => e = .returned (.int .i64 0) ∧
      ∃ xA xn xc, DeedAt w' w.heap.size kind q (.slice xA xn xc) ks n cnt tag ∧ w'.heap[w.heap.size + 1]? = some (.cells Try.zeroCells86 86 (0, 0)) ∧ R (.slice xA xn xc) w') :
    Calls Try.prog 32 #[.pointer (some ⟨D, 0, none⟩), .agg (deedC kind q da ks n cnt tag).toArray] w fun e w' => ∃ xA xn xc, e = .returned (.tuple #[.agg (deedC kind q (.slice xA xn xc) ks n cnt tag).toArray, .int .i64 0]) ∧ ∃ w2, R (.slice xA xn xc) w2 ∧ w2.heap[w.heap.size + 1]? = some (.cells Try.zeroCells86 86 (0, 0)) ∧ w' = w2.setRow (w.heap.size + 1) (deedC kind q (.slice xA xn xc) ks n cnt tag).toArray := by
  have HD := Lib.hid hD
  have HDN := Lib.hid hdn
  have HA := Lib.hid hacc
  have H2 := Lib.hid hks
  clear hD hdn hacc hks
  go_enter Try.func32, Try.ntmps32
  go_wp2_with (first
    | (go_at_call 34; refine (closed_live (dev_bel HD.out (by (repeat (first | exact Below.refl _ _ | refine bg_al ?_ | refine bg_gr ?_ | refine bg_drn ?_ | refine bg_dr ?_ | assumption)))) HDN.out).mono ?_; rintro en w1 ⟨rfl, rfl⟩)
    | (go_at_call 35; refine HA.out.mono ?_; rintro en w2 ⟨rfl, xA, xn, xc, hd2, hz2, hR⟩; have HD2 := Lib.hid hd2; have HZ2 := Lib.hid hz2; have HR := Lib.hid hR; clear hd2 hz2 hR)
    | (refine wpList_load_mid rfl 86 _ rfl _ _ (by rfl) (deedC kind q (.slice xA xn xc) ks n cnt tag) _ (range_blk HD2.out 0 _ (fun j v hj => by simpa using hj)) Try.underlying86 rfl (by rw [deed_len]; exact deedInfo) ?_)
    | (refine wl_store_row rfl 86 _ _ rfl (w.heap.size + 1) _ _ (by rfl) (by rfl) HZ2.out (by rw [List.size_toArray, deed_len]; exact deedInfo) (by rw [zd_size, List.size_toArray, deed_len]) (deed_one _ _ _ _ _ _ _ (by rfl) H2.out) ?_))
  refine bodyPost_ret (results_run rfl (setRow_heap _ _ _ _ _ _ HZ2.out) (by rw [List.size_toArray, deed_len])) rfl ?_
  exact ⟨xA, xn, xc, rfl, w2, HR.out, HZ2.out, rfl⟩

theorem st_deedS (W : World) (g : Nat) (c : Array Value) (kind n cnt : Int) (q tag : H32) (xA : Option Addr) (xn xc : Nat) (hg : W.heap.size = g) (hc : c.size = 69) :
    (storeCells ⟨g, 0, none⟩ (deedC kind q (.slice xA xn xc) (.slice none 0 0) n cnt tag) 0).run Try.prog (W.alloc (.cells c 86)) = .ok () (W.alloc (.cells (deedC kind q (.slice xA xn xc) (.slice none 0 0) n cnt tag).toArray 86)) := by
  have := st_deed W g c (deedC kind q (.slice xA xn xc) (.slice none 0 0) n cnt tag).toArray hg hc (deed_sz ..) (deed_one _ _ _ _ _ _ _ rfl rfl)
  simpa using this
theorem deed_33 (kind n cnt : Int) (q tag : H32) (a b : Value) : (deedC kind q a b n cnt tag)[33]? = some a := by
  unfold deedC
  rw [List.getElem?_append_right (by simp), List.getElem?_append_right (by simp [q.2])]
  simp [q.2]
theorem deed_33g (kind n cnt : Int) (q tag : H32) (a b : Value) (h : 33 < (deedC kind q a b n cnt tag).length) : (deedC kind q a b n cnt tag)[33] = a := by
  have := deed_33 kind n cnt q tag a b
  rw [List.getElem?_eq_getElem h] at this
  injection this
attribute [local go_sem] st_deedS deed_33 deed_33g deed_len zd_size

theorem Awake.setRow {w : World} {D : Nat} {F : Nat → Prop} {d : Dv} (h : Awake w D F d) {X : Nat} {c c' : Array Value} {fr : Nat × Nat} (hX : w.heap[X]? = some (.cells c 86 fr)) : Awake (w.setRow X c') D F d :=
  ⟨h.inv.deed (X := X) (setRow_chg (S := fun k => k = X) (Chg.refl _ _) (Or.inl rfl) c') (fun o ho => by rw [hX] at ho; injection ho with ho; exact ⟨c, fr, ho.symm⟩), fun k hk => by have := h.fit k hk; simpa [World.setRow] using this, h.cho, h.few, h.low⟩
/-- bytes stand -/
def Byk (w w' : World) : Prop := Chg (fun k => ¬ isBytes w k) w w'
theorem Byk.refl (w : World) : Byk w w := Chg.refl _ _
theorem Byk.below {w w' : World} (h : Below w.heap.size w w') : Byk w w' := Below.chg _ h
theorem Byk.trans {a b c : World} (h : Byk a b) (k : Byk b c) : Byk a c := by
  have hb : Chg (fun k => ¬ isBytes a k) b c := ⟨k.os, k.tape, k.output, k.size, fun i hi hn => k.block i hi (fun hnb => by
    have ha : isBytes a i := Classical.byContradiction hn
    exact hnb (isBytes_chg ha h (fun hx => hx ha)))⟩
  exact Chg.trans h hb
theorem Byk.of {S : Nat → Prop} {w w' : World} (h : Chg S w w') (hs : ∀ k, S k → ¬ isBytes w k) : Byk w w' := h.mono (fun k _ hk => hs k hk)
theorem Byk.db {w w' : World} {F : Nat → Prop} {v : Value} {l : Bs} (h : DB w F v l) (hb : Byk w w') : DB w' F v l := h.chg hb (fun k hk hn => hn hk)
theorem Byk.setRow {w : World} {X : Nat} {c c' : Array Value} {fr : Nat × Nat} (hX : w.heap[X]? = some (.cells c 86 fr)) : Byk w (w.setRow X c') :=
  Byk.of (S := fun k => k = X) (setRow_chg (S := fun k => k = X) (Chg.refl _ _) (Or.inl rfl) c') (by
    rintro k rfl ⟨cs, fr', hk⟩
    rw [hX] at hk
    injection hk with hk
    injection hk with _ hk
    exact absurd hk (by decide))

theorem chg_run {w W w2 : World} {F : Nat → Prop} {A : Nat} {c : Array Value} (hW : Below w.heap.size w W) (hA : w.heap.size ≤ A) (hf : Chg (fun k => F k ∨ k = A) W w2) : Chg F w (w2.setRow (w.heap.size + 1) c) := by
  have h1 : Chg (fun k => F k ∨ w.heap.size ≤ k) w w2 := (Below.chg _ hW).trans (hf.mono (fun k _ h => h.imp id (fun (e : _ = A) => by omega)))
  exact (setRow_chg (S := fun k => F k ∨ w.heap.size ≤ k) h1 (Or.inl (Or.inr (by omega))) c).mono (fun k hk h => h.elim id (fun h => by omega))
/-- the run of a Read -/
theorem run_read {w : World} {D : Nat} {F : Nat → Prop} {d : Dv} (h : Awake w D F d) (hdn : d.down = false) (hfew : d.acc.length < 1099511627776) :
    Calls Try.prog 32 #[.pointer (some ⟨D, 0, none⟩), .agg (deedC 5 zero32 (.slice none 0 0) (.slice none 0 0) 0 0 zero32).toArray] w fun e w' => ∃ xA xn xc, e = .returned (.tuple #[.agg (deedC 5 zero32 (.slice xA xn xc) (.slice none 0 0) 0 0 zero32).toArray, .int .i64 0]) ∧
      Awake w' D (Grown F w w') { d with acc := d.acc ++ [(5, 0, true)] } ∧ DB w' (fun _ => True) (.slice xA xn xc) d.log ∧ Byk w w' ∧ Chg F w w' := by
  obtain ⟨f, hD, hfd⟩ := h.dev
  have hW : Below w.heap.size w ((w.alloc (.cells (deedC 5 zero32 (.slice none 0 0) (.slice none 0 0) 0 0 zero32).toArray 86)).alloc (.cells Try.zeroCells86 86)) := by (repeat (first | exact Below.refl _ _ | refine bg_al ?_ | refine bg_gr ?_ | refine bg_drn ?_ | refine bg_dr ?_ | assumption))
  have hAW := h.below hW
  have hdeed : DeedAt ((w.alloc (.cells (deedC 5 zero32 (.slice none 0 0) (.slice none 0 0) 0 0 zero32).toArray 86)).alloc (.cells Try.zeroCells86 86)) w.heap.size 5 zero32 (.slice none 0 0) (.slice none 0 0) 0 0 zero32 := by
    unfold DeedAt
    rw [Below.heap_alloc _ _ _ (by simp), heap_alloc_last]
  have hz : ((w.alloc (.cells (deedC 5 zero32 (.slice none 0 0) (.slice none 0 0) 0 0 zero32).toArray 86)).alloc (.cells Try.zeroCells86 86)).heap[w.heap.size + 1]? = some (.cells Try.zeroCells86 86 (0, 0)) := by
    have : (w.alloc (.cells (deedC 5 zero32 (.slice none 0 0) (.slice none 0 0) 0 0 zero32).toArray 86)).heap.size = w.heap.size + 1 := by simp
    rw [← this, heap_alloc_last]
  generalize hWW : ((w.alloc (.cells (deedC 5 zero32 (.slice none 0 0) (.slice none 0 0) 0 0 zero32).toArray 86)).alloc (.cells Try.zeroCells86 86)) = W at hW hAW hdeed hz
  have hWs : W.heap.size = w.heap.size + 2 := by rw [← hWW]; simp
  refine (run_live D f 5 0 0 zero32 zero32 _ _ w hD (hfd.trans hdn) rfl (fun v w2 => Awake w2 D (Grown F W w2) { d with acc := d.acc ++ [(5, 0, true)] } ∧ DB w2 (fun _ => True) v d.log ∧ Byk W w2 ∧ Chg (fun k => F k ∨ k = w.heap.size) W w2) ?_).mono ?_
  · rw [hWW]
    refine (acc_read hAW hdeed hfew).mono ?_
    rintro e w2 ⟨rfl, hA2, ⟨v, hd2, hs2⟩, hc2⟩
    have hs2' := hs2
    obtain ⟨⟨xA, xc, rfl, -⟩, -⟩ := hs2
    refine ⟨rfl, xA, _, xc, hd2, ?_, hA2, hs2', Byk.of hc2 (fun k hk => hk.2), hc2.mono (fun k _ hk => hk.1)⟩
    rw [hc2.block _ (by omega) (fun hk => by
      rcases hk.1 with hk | hk
      · have := h.fit _ hk; omega
      · omega)]
    exact hz
  · rintro e w' ⟨xA, xn, xc, rfl, w2, ⟨hA2, hs2, hb2, hf2⟩, hz2, rfl⟩
    have hby : Byk w (w2.setRow (w.heap.size + 1) (deedC 5 zero32 (.slice xA xn xc) (.slice none 0 0) 0 0 zero32).toArray) := ((Byk.below hW).trans hb2).trans (Byk.setRow hz2)
    have hcF := chg_run (F := F) hW (show w.heap.size ≤ w.heap.size from Nat.le_refl _) hf2 (c := (deedC 5 zero32 (.slice xA xn xc) (.slice none 0 0) 0 0 zero32).toArray)
    refine ⟨xA, xn, xc, rfl, ?_, ?_, hby, hcF⟩
    · refine (hA2.setRow hz2).mono (fun k hk => ?_) (fun k hk => ?_)
      · rcases hk with hk | hk
        · exact Or.inl hk
        · exact Or.inr ⟨by omega, by simpa [World.setRow] using hk.2⟩
      · rcases hk with hk | hk
        · have := h.fit k hk; have := hby.size; omega
        · exact hk.2
    · exact Byk.db hs2 (Byk.setRow hz2)

/-- the run of a Get -/
theorem run_get {w : World} {D : Nat} {F : Nat → Prop} {d : Dv} {q : H32} {l : Bs} (h : Awake w D F d) (hdn : d.down = false) (hl : d.blobs q = some l) (hfew : d.acc.length < 1099511627776) :
    Calls Try.prog 32 #[.pointer (some ⟨D, 0, none⟩), .agg (deedC 1 q (.slice none 0 0) (.slice none 0 0) 0 0 zero32).toArray] w fun e w' => ∃ xA xn xc, e = .returned (.tuple #[.agg (deedC 1 q (.slice xA xn xc) (.slice none 0 0) 0 0 zero32).toArray, .int .i64 0]) ∧
      Awake w' D (Grown F w w') { d with acc := d.acc ++ [(1, 0, true)] } ∧ DB w' (fun _ => True) (.slice xA xn xc) l ∧ Byk w w' ∧ Chg F w w' := by
  obtain ⟨f, hD, hfd⟩ := h.dev
  have hW : Below w.heap.size w ((w.alloc (.cells (deedC 1 q (.slice none 0 0) (.slice none 0 0) 0 0 zero32).toArray 86)).alloc (.cells Try.zeroCells86 86)) := by (repeat (first | exact Below.refl _ _ | refine bg_al ?_ | refine bg_gr ?_ | refine bg_drn ?_ | refine bg_dr ?_ | assumption))
  have hAW := h.below hW
  have hdeed : DeedAt ((w.alloc (.cells (deedC 1 q (.slice none 0 0) (.slice none 0 0) 0 0 zero32).toArray 86)).alloc (.cells Try.zeroCells86 86)) w.heap.size 1 q (.slice none 0 0) (.slice none 0 0) 0 0 zero32 := by
    unfold DeedAt
    rw [Below.heap_alloc _ _ _ (by simp), heap_alloc_last]
  have hz : ((w.alloc (.cells (deedC 1 q (.slice none 0 0) (.slice none 0 0) 0 0 zero32).toArray 86)).alloc (.cells Try.zeroCells86 86)).heap[w.heap.size + 1]? = some (.cells Try.zeroCells86 86 (0, 0)) := by
    have : (w.alloc (.cells (deedC 1 q (.slice none 0 0) (.slice none 0 0) 0 0 zero32).toArray 86)).heap.size = w.heap.size + 1 := by simp
    rw [← this, heap_alloc_last]
  generalize hWW : ((w.alloc (.cells (deedC 1 q (.slice none 0 0) (.slice none 0 0) 0 0 zero32).toArray 86)).alloc (.cells Try.zeroCells86 86)) = W at hW hAW hdeed hz
  have hWs : W.heap.size = w.heap.size + 2 := by rw [← hWW]; simp
  refine (run_live D f 1 0 0 q zero32 _ _ w hD (hfd.trans hdn) rfl (fun v w2 => Awake w2 D (Grown F W w2) { d with acc := d.acc ++ [(1, 0, true)] } ∧ DB w2 (fun _ => True) v l ∧ Byk W w2 ∧ Chg (fun k => F k ∨ k = w.heap.size) W w2) ?_).mono ?_
  · rw [hWW]
    refine (acc_get hAW hdeed l hl hfew).mono ?_
    rintro e w2 ⟨rfl, hA2, ⟨v, hd2, hs2⟩, hc2⟩
    have hs2' := hs2
    obtain ⟨⟨xA, xc, rfl, -⟩, -⟩ := hs2
    refine ⟨rfl, xA, _, xc, hd2, ?_, hA2, hs2', Byk.of hc2 (fun k hk => hk.2), hc2.mono (fun k _ hk => hk.1)⟩
    rw [hc2.block _ (by omega) (fun hk => by
      rcases hk.1 with hk | hk
      · have := h.fit _ hk; omega
      · omega)]
    exact hz
  · rintro e w' ⟨xA, xn, xc, rfl, w2, ⟨hA2, hs2, hb2, hf2⟩, hz2, rfl⟩
    have hby : Byk w (w2.setRow (w.heap.size + 1) (deedC 1 q (.slice xA xn xc) (.slice none 0 0) 0 0 zero32).toArray) := ((Byk.below hW).trans hb2).trans (Byk.setRow hz2)
    have hcF := chg_run (F := F) hW (show w.heap.size ≤ w.heap.size from Nat.le_refl _) hf2 (c := (deedC 1 q (.slice xA xn xc) (.slice none 0 0) 0 0 zero32).toArray)
    refine ⟨xA, xn, xc, rfl, ?_, ?_, hby, hcF⟩
    · refine (hA2.setRow hz2).mono (fun k hk => ?_) (fun k hk => ?_)
      · rcases hk with hk | hk
        · exact Or.inl hk
        · exact Or.inr ⟨by omega, by simpa [World.setRow] using hk.2⟩
      · rcases hk with hk | hk
        · have := h.fit k hk; have := hby.size; omega
        · exact hk.2
    · exact Byk.db hs2 (Byk.setRow hz2)

/-- the run of an Append -/
theorem run_append {w : World} {D : Nat} {F : Nat → Prop} {d : Dv} {ld : Bs} {dA : Option Addr} {dc : Nat} (h : Awake w D F d) (hdn : d.down = false) (hda : DB w (fun _ => True) (.slice dA ld.length dc) ld) (hroom : (d.log.length : Int) + ld.length ≤ d.room) (hr2 : d.room ≤ 1048576) (hne : ld ≠ []) (hfew : d.acc.length < 1099511627776 ∧ d.past.length < 1099511627776) :
    Calls Try.prog 32 #[.pointer (some ⟨D, 0, none⟩), .agg (deedC 6 zero32 (.slice dA ld.length dc) (.slice none 0 0) 0 0 zero32).toArray] w fun e w' => ∃ xA xn xc, e = .returned (.tuple #[.agg (deedC 6 zero32 (.slice xA xn xc) (.slice none 0 0) 0 0 zero32).toArray, .int .i64 0]) ∧
      Awake w' D (Grown F w w') { d with log := d.log ++ ld, acc := d.acc ++ [(6, 0, true)], past := d.past ++ [⟨fun _ => none, 0, d.log⟩] } ∧ Byk w w' ∧ Chg F w w' := by
  obtain ⟨f, hD, hfd⟩ := h.dev
  have hnD : ∀ a, vBlock (.slice dA ld.length dc) = some a → a ≠ D := by
    rintro a ha rfl
    obtain ⟨_, cs, fr, hk⟩ := hda.2 a ha
    unfold DevAt at hD
    rw [hD] at hk
    injection hk with hk
    injection hk with _ hk
    exact absurd hk (by decide)
  have hW : Below w.heap.size w ((w.alloc (.cells (deedC 6 zero32 (.slice dA ld.length dc) (.slice none 0 0) 0 0 zero32).toArray 86)).alloc (.cells Try.zeroCells86 86)) := by (repeat (first | exact Below.refl _ _ | refine bg_al ?_ | refine bg_gr ?_ | refine bg_drn ?_ | refine bg_dr ?_ | assumption))
  have hAW := h.below hW
  have hdeed : DeedAt ((w.alloc (.cells (deedC 6 zero32 (.slice dA ld.length dc) (.slice none 0 0) 0 0 zero32).toArray 86)).alloc (.cells Try.zeroCells86 86)) w.heap.size 6 zero32 (.slice dA ld.length dc) (.slice none 0 0) 0 0 zero32 := by
    unfold DeedAt
    rw [Below.heap_alloc _ _ _ (by simp), heap_alloc_last]
  have hz : ((w.alloc (.cells (deedC 6 zero32 (.slice dA ld.length dc) (.slice none 0 0) 0 0 zero32).toArray 86)).alloc (.cells Try.zeroCells86 86)).heap[w.heap.size + 1]? = some (.cells Try.zeroCells86 86 (0, 0)) := by
    have : (w.alloc (.cells (deedC 6 zero32 (.slice dA ld.length dc) (.slice none 0 0) 0 0 zero32).toArray 86)).heap.size = w.heap.size + 1 := by simp
    rw [← this, heap_alloc_last]
  generalize hWW : ((w.alloc (.cells (deedC 6 zero32 (.slice dA ld.length dc) (.slice none 0 0) 0 0 zero32).toArray 86)).alloc (.cells Try.zeroCells86 86)) = W at hW hAW hdeed hz
  have hWs : W.heap.size = w.heap.size + 2 := by rw [← hWW]; simp
  refine (run_live D f 6 0 0 zero32 zero32 _ _ w hD (hfd.trans hdn) rfl (fun v w2 => Awake w2 D (Grown F W w2) { d with log := d.log ++ ld, acc := d.acc ++ [(6, 0, true)], past := d.past ++ [⟨fun _ => none, 0, d.log⟩] } ∧ Byk W w2 ∧ Chg (fun k => F k ∨ k = w.heap.size) W w2) ?_).mono ?_
  · rw [hWW]
    refine (acc_append hAW hdeed ld (hda.chg (S := fun _ => False) (Below.chg _ hW) (fun _ _ h => h)).1 hnD hroom hr2 hne hfew).mono ?_
    rintro e w2 ⟨rfl, hA2, hd2, hc2⟩
    refine ⟨rfl, dA, _, dc, hd2, ?_, hA2, Byk.of hc2 (fun k hk => hk.2), hc2.mono (fun k _ hk => hk.1)⟩
    rw [hc2.block _ (by omega) (fun hk => by
      rcases hk.1 with hk | hk
      · have := h.fit _ hk; omega
      · omega)]
    exact hz
  · rintro e w' ⟨xA, xn, xc, rfl, w2, ⟨hA2, hb2, hf2⟩, hz2, rfl⟩
    have hby : Byk w (w2.setRow (w.heap.size + 1) (deedC 6 zero32 (.slice xA xn xc) (.slice none 0 0) 0 0 zero32).toArray) := ((Byk.below hW).trans hb2).trans (Byk.setRow hz2)
    have hcF := chg_run (F := F) hW (show w.heap.size ≤ w.heap.size from Nat.le_refl _) hf2 (c := (deedC 6 zero32 (.slice xA xn xc) (.slice none 0 0) 0 0 zero32).toArray)
    refine ⟨xA, xn, xc, rfl, ?_, hby, hcF⟩
    · refine (hA2.setRow hz2).mono (fun k hk => ?_) (fun k hk => ?_)
      · rcases hk with hk | hk
        · exact Or.inl hk
        · exact Or.inr ⟨by omega, by simpa [World.setRow] using hk.2⟩
      · rcases hk with hk | hk
        · have := h.fit k hk; have := hby.size; omega
        · exact hk.2

end Go.Proofs.Ytcbglojjbgenlaa
namespace Go.Proofs.Ytcbglojjbgenlaa
open Go.RowKit Go.MapL Go.ChangeMaps Go.MapKept
set_option linter.unusedSimpArgs false
set_option linter.unusedVariables false
attribute [local go_sem] size_gr cell_gr frozen_gr setCell_gr gr_drew gr_drewN lt_k lt_kc le_k le_kc sub_kc nil29 nil28 nil49 mkmap size_setBlock cell_setB st_deedS deed_33 deed_33g deed_len zd_size
attribute [local go_sem ↓] Go.wp_at_zero Go.wp_at_succ

theorem Byk.rt {w w' : World} {v : Value} {l : Bs} (h : DB w (fun _ => True) v l) (hb : Byk w w') : DB w' (fun _ => True) v l := Byk.db h hb
theorem db_below {w w' : World} {v : Value} {l : Bs} (h : DB w (fun _ => True) v l) (hb : Below w.heap.size w w') : DB w' (fun _ => True) v l := Byk.db h (Byk.below hb)

set_option maxRecDepth 8000 in
theorem read_live {w : World} {D : Nat} {F : Nat → Prop} {d : Dv} (h : Awake w D F d) (hdn : d.down = false) (hfew : d.acc.length < 1099511627776) :
    Calls Try.prog 10 #[.pointer (some ⟨D, 0, none⟩)] w fun e w' => ∃ A c, e = .returned (.tuple #[.slice A d.log.length c, .int .i64 0]) ∧ DB w' (fun _ => True) (.slice A d.log.length c) d.log ∧ Awake w' D (Grown F w w') { d with acc := d.acc ++ [(5, 0, true)] } ∧ Byk w w' ∧ Chg F w w' := by
  have HR := Lib.hid (run_read h hdn hfew)
  have HL := Lib.hid h.low
  have HF := Lib.hid h.fit
  clear h hdn hfew
  go_enter Try.func10, Try.ntmps10
  go_wp2_with (first
    | (go_at_call 32; rw [deed_plain]; refine HR.out.mono ?_; rintro en w1 ⟨xA, xn, xc, rfl, hA1, hs1, hb1, hf1⟩; have HF1 := Lib.hid hf1; clear hf1; have HA1 := Lib.hid hA1; have HS1 := Lib.hid hs1; have HB1 := Lib.hid hb1; clear hA1 hs1 hb1)
    | (go_at_call 33; refine (bclone_any _ d.log _ ((HS1.out.1).below (by (repeat (first | exact Below.refl _ _ | refine bg_al ?_ | refine bg_gr ?_ | refine bg_drn ?_ | refine bg_dr ?_ | assumption)))) (by have := HL.out; omega)).mono ?_; rintro en w2 ⟨A2, c2, rfl, ho2, hb2⟩; obtain ⟨D2, rfl⟩ := gr_of_below hb2; clear hb2; have HO2 := Lib.hid ho2; clear ho2))
  go_ret2
  have hbw : Below w1.heap.size w1 ((w1.alloc (.cells (deedC 5 zero32 (.slice xA xn xc) (.slice none 0 0) 0 0 zero32).toArray 86)).gr D2) := by (repeat (first | exact Below.refl _ _ | refine bg_al ?_ | refine bg_gr ?_ | refine bg_drn ?_ | refine bg_dr ?_ | assumption))
  have hby := HB1.out.trans (Byk.below hbw)
  have hcF := HF1.out.trans (Below.chg F hbw)
  refine ⟨A2, c2, rfl, DB.own HO2.out (fun _ _ _ => trivial), (HA1.out.below hbw).mono (fun k hk => ?_) (fun k hk => ?_), hby, hcF⟩
  · rcases hk with hk | hk
    · exact Or.inl hk
    · exact Or.inr ⟨hk.1, by have := hbw.size; omega⟩
  · rcases hk with hk | hk
    · have := HF.out k hk; have := hby.size; omega
    · exact hk.2

set_option maxHeartbeats 1000000 in
set_option maxRecDepth 8000 in
theorem get_live {w : World} {D : Nat} {F : Nat → Prop} {d : Dv} {q : H32} {l : Bs} (h : Awake w D F d) (hdn : d.down = false) (hl : d.blobs q = some l) (hls : l.length ≤ 1048576) (hfew : d.acc.length < 1099511627776) :
    Calls Try.prog 8 #[.pointer (some ⟨D, 0, none⟩), hv q] w fun e w' => ∃ A c, e = .returned (.tuple #[.slice A l.length c, .int .i64 0]) ∧ DB w' (fun _ => True) (.slice A l.length c) l ∧ Awake w' D (Grown F w w') { d with acc := d.acc ++ [(1, 0, true)] } ∧ Byk w w' ∧ Chg F w w' := by
  have hb0 : Below w.heap.size w (w.alloc (.cells (q.1.map bv).toArray 33)) := by (repeat (first | exact Below.refl _ _ | refine bg_al ?_ | refine bg_gr ?_ | refine bg_drn ?_ | refine bg_dr ?_ | assumption))
  have HR := Lib.hid (run_get (h.below hb0) hdn hl hfew)
  have HL := Lib.hid hls
  have HF := Lib.hid h.fit
  have HB0 := Lib.hid (Byk.below hb0)
  have HBB := Lib.hid hb0
  clear h hdn hfew hl hls hb0
  unfold hv
  go_enter Try.func8, Try.ntmps8
  go_wp2_with (first
    | (refine wpList_load_mid rfl 33 _ rfl _ _ (by rfl) (q.1.map bv) _ (range_hash _ _ q rfl) Try.underlying33 rfl (hash_info q) ?_)
    | (go_at_call 32; rw [deed_zero]; refine HR.out.mono ?_; rintro en w1 ⟨xA, xn, xc, rfl, hA1, hs1, hb1, hf1⟩; have HF1 := Lib.hid hf1; clear hf1; have HA1 := Lib.hid hA1; have HS1 := Lib.hid hs1; have HB1 := Lib.hid hb1; clear hA1 hs1 hb1)
    | (go_at_call 33; refine (bclone_any _ l _ ((HS1.out.1).below (by (repeat (first | exact Below.refl _ _ | refine bg_al ?_ | refine bg_gr ?_ | refine bg_drn ?_ | refine bg_dr ?_ | assumption)))) (by have := HL.out; omega)).mono ?_; rintro en w2 ⟨A2, c2, rfl, ho2, hb2⟩; obtain ⟨D2, rfl⟩ := gr_of_below hb2; clear hb2; have HO2 := Lib.hid ho2; clear ho2))
  go_ret2
  have hbw : Below w1.heap.size w1 ((w1.alloc (.cells (deedC 1 q (.slice xA xn xc) (.slice none 0 0) 0 0 zero32).toArray 86)).gr D2) := by (repeat (first | exact Below.refl _ _ | refine bg_al ?_ | refine bg_gr ?_ | refine bg_drn ?_ | refine bg_dr ?_ | assumption))
  have hby := (HB0.out.trans HB1.out).trans (Byk.below hbw)
  have hcF := ((Below.chg F HBB.out).trans HF1.out).trans (Below.chg F hbw)
  refine ⟨A2, c2, rfl, DB.own HO2.out (fun _ _ _ => trivial), (HA1.out.below hbw).mono (fun k hk => ?_) (fun k hk => ?_), hby, hcF⟩
  · rcases hk with hk | hk
    · exact Or.inl hk
    · exact Or.inr ⟨by have := hk.1; simp at this; omega, by have := hbw.size; omega⟩
  · rcases hk with hk | hk
    · have := HF.out k hk; have := hby.size; omega
    · exact hk.2

set_option maxRecDepth 8000 in
theorem append_live {w : World} {D : Nat} {F : Nat → Prop} {d : Dv} {ld : Bs} {v : Value} (h : Awake w D F d) (hdn : d.down = false) (hv : SB w v ld) (hroom : (d.log.length : Int) + ld.length ≤ d.room) (hr2 : d.room ≤ 1048576) (hne : ld ≠ []) (hfew : d.acc.length < 1099511627776 ∧ d.past.length < 1099511627776) :
    Calls Try.prog 14 #[.pointer (some ⟨D, 0, none⟩), v] w fun e w' => e = .returned (.int .i64 0) ∧ Awake w' D (Grown F w w') { d with log := d.log ++ ld, acc := d.acc ++ [(6, 0, true)], past := d.past ++ [⟨fun _ => none, 0, d.log⟩] } ∧ Byk w w' ∧ Chg F w w' := by
  have HR := Lib.hid (fun (W : World) (A : Option Addr) (c : Nat) (hb : Below w.heap.size w W) (ho : OwnB W w.heap.size (.slice A ld.length c) ld) => run_append (h.below hb) hdn (DB.own ho (fun _ _ _ => trivial)) hroom hr2 hne hfew)
  have HV := Lib.hid hv
  have HL := Lib.hid (show ld.length ≤ 1048576 by omega)
  have HF := Lib.hid h.fit
  clear h hdn hfew hroom hr2 hne hv
  go_enter Try.func14, Try.ntmps14
  go_wp2_with (first
    | (go_at_call 33; refine (bclone_any _ ld _ (HV.out.below (by (repeat (first | exact Below.refl _ _ | refine bg_al ?_ | refine bg_gr ?_ | refine bg_drn ?_ | refine bg_dr ?_ | assumption)))) (by have := HL.out; omega)).mono ?_; rintro en w2 ⟨A2, c2, rfl, ho2, hb2⟩; have HB2 := Lib.hid hb2; clear hb2; have HO2 := Lib.hid ho2; clear ho2)
    | (go_at_call 32; rw [deed_data]; refine (HR.out _ _ _ HB2.out HO2.out).mono ?_; rintro en w1 ⟨xA, xn, xc, rfl, hA1, hb1, hf1⟩; have HF1 := Lib.hid hf1; clear hf1; have HA1 := Lib.hid hA1; have HB1 := Lib.hid hb1; clear hA1 hb1))
  go_ret
  have hbw : Below w1.heap.size w1 (w1.alloc (.cells (deedC 6 zero32 (.slice xA xn xc) (.slice none 0 0) 0 0 zero32).toArray 86)) := by (repeat (first | exact Below.refl _ _ | refine bg_al ?_ | refine bg_gr ?_ | refine bg_drn ?_ | refine bg_dr ?_ | assumption))
  have hby := ((Byk.below HB2.out).trans HB1.out).trans (Byk.below hbw)
  have hcF := ((Below.chg F HB2.out).trans HF1.out).trans (Below.chg F hbw)
  refine ⟨rfl, (HA1.out.below hbw).mono (fun k hk => ?_) (fun k hk => ?_), hby, hcF⟩
  · rcases hk with hk | hk
    · exact Or.inl hk
    · exact Or.inr ⟨by have := hk.1; have := HB2.out.size; omega, by have := hbw.size; omega⟩
  · rcases hk with hk | hk
    · have := HF.out k hk; have := hby.size; omega
    · exact hk.2

theorem accesses_live {w : World} {D : Nat} {F : Nat → Prop} {d : Dv} (h : Awake w D F d) :
    Calls Try.prog 20 #[.pointer (some ⟨D, 0, none⟩)] w fun e w' => ∃ A c, e = .returned (.slice A d.acc.length c) ∧ w'.ownsRow w.heap.size 95 3 (.slice A d.acc.length c) d.acc.length (d.acc.flatMap acC) ∧ Below w.heap.size w w' := by
  obtain ⟨m, hI, -, -, ⟨aA, ac, hav⟩, -⟩ := h.parts
  obtain ⟨-, -, -, -, -, -, -, hc39, -⟩ := dev_c hI.dev
  have hc39' : w.cell? ⟨D, 39, none⟩ = some (.slice aA d.acc.length ac) := by rw [hc39]; exact congrArg some hav
  have hsrc := Src.own hI.acc.1
  rw [hav] at hsrc
  have hsz : ∀ c, (Value.slice aA d.acc.length ac) = .slice none d.acc.length c → d.acc.length = 0 := fun c e => by
    have hr := hI.acc.1
    rw [hav] at hr
    injection e with e
    rcases hr.2 with ⟨e2, h0⟩ | ⟨g, cap, cur, e2, _⟩
    · exact h0
    · injection e2 with e2
      rw [e] at e2
      cases e2
  have h1 : ∀ u ∈ d.acc.flatMap acC, u.oneCell' = true := fun u hu => by
    obtain ⟨c, _, hc⟩ := List.mem_flatMap.1 hu
    simp [acC] at hc
    rcases hc with rfl | rfl | rfl <;> rfl
  have HC := Lib.hid (aclone_any _ _ _ w hsrc h1 h.few.1 hsz)
  clear h hI hav hc39 hsrc hsz h1
  go_enter Try.func20, Try.ntmps20
  go_wp2_with (go_at_call 36; refine HC.out.mono ?_; rintro en w2 ⟨A2, c2, rfl, ho2, hb2⟩; have HB2 := Lib.hid hb2; have HO2 := Lib.hid ho2; clear ho2 hb2)
  go_ret
  exact ⟨A2, c2, rfl, HO2.out, HB2.out⟩
end Go.Proofs.Ytcbglojjbgenlaa
namespace Go.Proofs.Ytcbglojjbgenlaa
open Go.RowKit Go.MapL Go.ChangeMaps Go.MapKept
set_option linter.unusedSimpArgs false
set_option linter.unusedVariables false
attribute [local go_sem] size_gr cell_gr frozen_gr setCell_gr gr_drew gr_drewN lt_k lt_kc le_k le_kc sub_kc nil29 nil28 nil49 mkmap size_setBlock cell_setB st_deedS deed_33 deed_33g deed_len zd_size
attribute [local go_sem ↓] Go.wp_at_zero Go.wp_at_succ

theorem deed_put (q : H32) (v : Value) : (List.foldl (fun cs x => cs.setIfInBounds (1 + x.2) x.1) ((Try.zeroCells86).setIfInBounds 0 (.int .i64 2)) (q.1.map bv).zipIdx).setIfInBounds 33 v = (deedC 2 q v (.slice none 0 0) 0 0 zero32).toArray := by
  rw [deed_zero]
  apply Array.ext'
  rw [Array.toList_setIfInBounds]
  have e : ∀ (u : Value), deedC 2 q u (.slice none 0 0) 0 0 zero32 = ([.int .i64 2] ++ q.1.map bv) ++ u :: ([.slice none 0 0, .int .i64 0, .int .i64 0] ++ zero32.1.map bv) := fun u => by simp [deedC]
  rw [e (.slice none 0 0), e v]
  show List.set _ 33 v = _
  rw [List.set_append_right _ _ (by simp [q.2])]
  simp [q.2]

set_option maxHeartbeats 1000000 in
set_option maxRecDepth 8000 in
theorem put_live {w : World} {D : Nat} {F : Nat → Prop} {d : Dv} {q : H32} {l : Bs} {v : Value} (h : Awake w D F d) (hdn : d.down = false) (hv0 : SB w v l) (hls : l.length ≤ 1024) (hno : d.blobs q = none) (hroom : (d.n : Int) < d.slots) (hfew : d.acc.length < 1099511627776 ∧ d.past.length < 1099511627776 ∧ ∀ q, (d.vers q).length < 1099511627776) :
    Calls Try.prog 12 #[.pointer (some ⟨D, 0, none⟩), hv q, v] w fun e w' => e = .returned (.int .i64 0) ∧
      Awake w' D (Grown F w w') { d with blobs := updO d.blobs q (some l), n := d.n + 1, vers := updL d.vers q (d.vers q ++ [l]), acc := d.acc ++ [(2, 0, true)], past := d.past ++ [⟨updO (fun _ => none) q (some (d.blobs q)), 1, d.log⟩] } ∧ Byk w w' ∧ Chg F w w' := by
  obtain ⟨f, hD, hfd⟩ := h.dev
  have HP := Lib.hid (fun (W : World) (X : Nat) (A : Option Addr) (c : Nat) (hb : Below w.heap.size w W) (ho : OwnB W w.heap.size (.slice A l.length c) l) (hX : DeedAt W X 2 q (.slice A l.length c) (.slice none 0 0) 0 0 zero32) =>
    acc_put ((h.below hb).mono (F' := fun k => F k ∨ (w.heap.size ≤ k ∧ isBytes W k)) (fun k hk => Or.inl hk) (fun k hk => hk.elim (fun hk => Nat.lt_of_lt_of_le (h.fit k hk) hb.size) (fun ⟨_, cs, fr, hk⟩ => (Array.getElem?_eq_some_iff.1 hk).1))) hX
      ⟨ho.sb, fun k hk => by obtain ⟨h1, h2, h3⟩ := own_vBlock ho k hk; exact ⟨Or.inr ⟨h1, h3⟩, h3⟩⟩ hno hroom hfew)
  have HD := Lib.hid hD
  have HDN := Lib.hid (hfd.trans hdn)
  have HV := Lib.hid hv0
  have HF := Lib.hid h.fit
  have HL := Lib.hid hls
  have hlen : ¬ (1024 : Int) < (l.length : Int) := by omega
  obtain ⟨vA, vc, rfl, -⟩ := hv0
  have hq32 : q.1.length = 32 := q.2
  have hfs : (List.foldl (fun cs x => cs.setIfInBounds (1 + x.2) x.1) ((Try.zeroCells86).setIfInBounds 0 (.int .i64 2)) (q.1.map bv).zipIdx).size = 69 := by rw [deed_zero]; exact deed_sz ..
  have hql := q_len q
  have hqu := Try.underlying33
  have hqi := hash_info q
  clear h hdn hls hno hroom hfew hD hfd
  unfold hv
  go_enter Try.func12, Try.ntmps12
  go_wp2_with (first
    | (go_at_call 34; refine (closed_live (dev_bel HD.out (by (repeat (first | exact Below.refl _ _ | refine bg_al ?_ | refine bg_gr ?_ | refine bg_drn ?_ | refine bg_dr ?_ | assumption)))) HDN.out).mono ?_; rintro en w1 ⟨rfl, rfl⟩))
  go_region_held3 (fun W => W.rangeAt w.heap.size 0 (q.1.map bv))
    (first | exact HK9.out | exact range_bel (range_hash w _ q rfl) (by (repeat (first | exact Below.refl _ _ | refine bg_al ?_ | refine bg_gr ?_ | refine bg_drn ?_ | refine bg_dr ?_ | assumption))))
    (first
      | (go_at_call 33; refine (bclone_any _ l _ (HV.out.below (by (repeat (first | exact Below.refl _ _ | refine bg_al ?_ | refine bg_gr ?_ | refine bg_drn ?_ | refine bg_dr ?_ | assumption)))) (by have := HL.out; omega)).mono ?_; rintro en w2 ⟨A2, c2, rfl, ho2, hb2⟩; obtain ⟨D2, rfl⟩ := gr_of_below hb2; clear hb2; have HO2 := Lib.hid ho2; clear ho2)
      | (go_at_call 35; rw [deed_put]; refine (HP.out _ (w.heap.size + 1 + D2.k) A2 c2 (by (repeat (first | exact Below.refl _ _ | refine bg_al ?_ | refine bg_gr ?_ | refine bg_drn ?_ | refine bg_dr ?_ | assumption))) ((HO2.out.below (by (repeat (first | exact Below.refl _ _ | refine bg_al ?_ | refine bg_gr ?_ | refine bg_drn ?_ | refine bg_dr ?_ | assumption)))).mono (by simp)) (by unfold DeedAt; rw [show w.heap.size + 1 + D2.k = ((w.alloc (.cells (q.1.map bv).toArray 33)).gr D2).heap.size from by simp [size_gr]]; exact heap_alloc_last _ _)).mono ?_; rintro en w3 ⟨rfl, hA3, hc3⟩; have HA3 := Lib.hid hA3; have HC3 := Lib.hid hc3; have HK9 := Lib.hid (range_chg (range_bel (range_hash w _ q rfl) (by (repeat (first | exact Below.refl _ _ | refine bg_al ?_ | refine bg_gr ?_ | refine bg_drn ?_ | refine bg_dr ?_ | assumption)))) hc3 (by
          rintro ⟨(hk | ⟨_, hk⟩) | hk, hnb⟩
          · exact absurd (HF.out _ hk) (Nat.lt_irrefl _)
          · exact hnb hk
          · omega)); clear hA3 hc3))
  go_wp2_with fail
  go_ret
  have hbW : Below w.heap.size w (((w.alloc (.cells (q.1.map bv).toArray 33)).gr D2).alloc (.cells (deedC 2 q (.slice A2 l.length c2) (.slice none 0 0) 0 0 zero32).toArray 86)) := by (repeat (first | exact Below.refl _ _ | refine bg_al ?_ | refine bg_gr ?_ | refine bg_drn ?_ | refine bg_dr ?_ | assumption))
  have hby := (Byk.below hbW).trans (Byk.of HC3.out (fun k hk => hk.2))
  have hcF : Chg F w w3 := ((Below.chg (fun k => F k ∨ w.heap.size ≤ k) hbW).trans (HC3.out.mono (fun k _ hk => by
    rcases hk.1 with (h | h) | h
    · exact Or.inl h
    · exact Or.inr h.1
    · exact Or.inr (by omega)))).mono (fun k hk h => h.elim id (fun h => by omega))
  refine ⟨rfl, HA3.out.mono (fun k hk => ?_) (fun k hk => ?_), hby, hcF⟩
  · rcases hk with (hk | hk) | hk
    · exact Or.inl hk
    · obtain ⟨h1, cs, fr, h2⟩ := hk
      have h3 := (Array.getElem?_eq_some_iff.1 h2).1
      exact Or.inr ⟨h1, by have := HC3.out.size; omega⟩
    · exact Or.inr ⟨by have := hk.1; have := hbW.size; omega, hk.2⟩
  · rcases hk with hk | hk
    · have := HF.out k hk; have := hby.size; omega
    · exact hk.2
end Go.Proofs.Ytcbglojjbgenlaa
namespace Go.Proofs.Ytcbglojjbgenlaa
open Go.RowKit Go.MapL Go.ChangeMaps Go.MapKept
set_option linter.unusedSimpArgs false
set_option linter.unusedVariables false
attribute [local go_sem] size_gr cell_gr frozen_gr setCell_gr gr_drew gr_drewN lt_k lt_kc le_k le_kc sub_kc nil29 nil28 nil49 mkmap size_setBlock cell_setB conv_const
attribute [local go_sem ↓] Go.wp_at_zero Go.wp_at_succ

def key1 : H32 := ⟨1 :: List.replicate 31 0, by simp⟩
def bsAb : Bs := [97, 98]
def bsHello : Bs := [104, 101, 108, 108, 111]
def dA : Dv := dv0 2 10 []
noncomputable def dB : Dv := { dA with blobs := updO dA.blobs key1 (some bsAb), n := dA.n + 1, vers := updL dA.vers key1 (dA.vers key1 ++ [bsAb]), acc := dA.acc ++ [(2, 0, true)], past := dA.past ++ [⟨updO (fun _ => none) key1 (some (dA.blobs key1)), 1, dA.log⟩] }
noncomputable def dC : Dv := { dB with log := dB.log ++ bsHello, acc := dB.acc ++ [(6, 0, true)], past := dB.past ++ [⟨fun _ => none, 0, dB.log⟩] }
noncomputable def dD : Dv := { dC with acc := dC.acc ++ [(1, 0, true)] }
noncomputable def dE : Dv := { dD with acc := dD.acc ++ [(5, 0, true)] }
theorem dE_acc : dE.acc.length = 4 := rfl
theorem dC_blob : dC.blobs key1 = some bsAb := by
  show updO dA.blobs key1 (some bsAb) key1 = _
  simp [updO]

theorem new_dA (w : World) : Calls Try.prog 6 #[.int .i64 2, .int .i64 10, .slice none 0 0] w fun e w' => ∃ D F, e = .returned (.tuple #[.pointer (some ⟨D, 0, none⟩), .int .i64 0]) ∧ Below w.heap.size w w' ∧ Awake w' D F dA ∧ ∀ k, F k → w.heap.size ≤ k := by
  refine (new_ok 2 10 (.slice none 0 0) [] w (by omega) (SC.nil w 3) (by simp) rfl).mono ?_
  rintro e w' ⟨D, rfl, hb, hI⟩
  exact ⟨D, _, rfl, hb, ⟨hI, fun k hk => hk.2, rfl, ⟨by simp [dA, dv0], by simp [dA, dv0], fun q => by simp [dA, dv0]⟩, by simp [dA, dv0]⟩, fun k hk => hk.1⟩
theorem put_dB {w : World} {D : Nat} {F : Nat → Prop} (h : Awake w D F dA) {v : Value} (hsv : SB w v bsAb) : Calls Try.prog 12 #[.pointer (some ⟨D, 0, none⟩), hv key1, v] w fun e w' => ∃ F', e = .returned (.int .i64 0) ∧ Awake w' D F' dB ∧ Byk w w' ∧ Chg F w w' ∧ (∀ k, F' k → F k ∨ w.heap.size ≤ k) :=
  (put_live h rfl hsv (show 2 ≤ 1024 by decide) rfl (show ((0 : Nat) : Int) < 2 by decide) ⟨show 0 < 1099511627776 by decide, show 0 < 1099511627776 by decide, fun q => show 0 < 1099511627776 by decide⟩).mono fun e w' ⟨h1, h2, h3, h4⟩ => ⟨_, h1, h2, h3, h4, fun k hk => hk.imp id (fun hk => hk.1)⟩
theorem append_dC {w : World} {D : Nat} {F : Nat → Prop} (h : Awake w D F dB) {v : Value} (hsv : SB w v bsHello) : Calls Try.prog 14 #[.pointer (some ⟨D, 0, none⟩), v] w fun e w' => ∃ F', e = .returned (.int .i64 0) ∧ Awake w' D F' dC ∧ Byk w w' ∧ Chg F w w' ∧ (∀ k, F' k → F k ∨ w.heap.size ≤ k) :=
  (append_live h rfl hsv (show ((0 : Nat) : Int) + ((5 : Nat) : Int) ≤ 10 by decide) (show (10 : Int) ≤ 1048576 by decide) (by simp [bsHello]) ⟨show 1 < 1099511627776 by decide, show 1 < 1099511627776 by decide⟩).mono fun e w' ⟨h1, h2, h3, h4⟩ => ⟨_, h1, h2, h3, h4, fun k hk => hk.imp id (fun hk => hk.1)⟩
theorem get_dD {w : World} {D : Nat} {F : Nat → Prop} (h : Awake w D F dC) : Calls Try.prog 8 #[.pointer (some ⟨D, 0, none⟩), hv key1] w fun e w' => ∃ F' A c, e = .returned (.tuple #[.slice A 2 c, .int .i64 0]) ∧ DB w' (fun _ => True) (.slice A 2 c) bsAb ∧ Awake w' D F' dD ∧ Byk w w' ∧ Chg F w w' ∧ (∀ k, F' k → F k ∨ w.heap.size ≤ k) :=
  (get_live h rfl dC_blob (show 2 ≤ 1048576 by decide) (show 2 < 1099511627776 by decide)).mono fun e w' ⟨A, c, h1, h2, h3, h4, h5⟩ => ⟨_, A, c, h1, h2, h3, h4, h5, fun k hk => hk.imp id (fun hk => hk.1)⟩
theorem read_dE {w : World} {D : Nat} {F : Nat → Prop} (h : Awake w D F dD) : Calls Try.prog 10 #[.pointer (some ⟨D, 0, none⟩)] w fun e w' => ∃ F' A c, e = .returned (.tuple #[.slice A 5 c, .int .i64 0]) ∧ DB w' (fun _ => True) (.slice A 5 c) bsHello ∧ Awake w' D F' dE ∧ Byk w w' ∧ Chg F w w' ∧ (∀ k, F' k → F k ∨ w.heap.size ≤ k) :=
  (read_live h rfl (show 3 < 1099511627776 by decide)).mono fun e w' ⟨A, c, h1, h2, h3, h4, h5⟩ => ⟨_, A, c, h1, h2, h3, h4, h5, fun k hk => hk.imp id (fun hk => hk.1)⟩
theorem acc_dE {w : World} {D : Nat} {F : Nat → Prop} (h : Awake w D F dE) : Calls Try.prog 20 #[.pointer (some ⟨D, 0, none⟩)] w fun e w' => ∃ A c, e = .returned (.slice A 4 c) ∧ Below w.heap.size w w' :=
  (accesses_live h).mono fun e w' ⟨A, c, h1, h2, h3⟩ => ⟨A, c, h1, h3⟩

theorem dA_to {w w' : World} {D : Nat} {F : Nat → Prop} {d : Dv} (h : Awake w D F d) (hb : Below w.heap.size w w') : Awake w' D F d := h.below hb
theorem key_lit : (Value.agg #[.int .u8 1, .int .u8 0, .int .u8 0, .int .u8 0, .int .u8 0, .int .u8 0, .int .u8 0, .int .u8 0, .int .u8 0, .int .u8 0, .int .u8 0, .int .u8 0, .int .u8 0, .int .u8 0, .int .u8 0, .int .u8 0, .int .u8 0, .int .u8 0, .int .u8 0, .int .u8 0, .int .u8 0, .int .u8 0, .int .u8 0, .int .u8 0, .int .u8 0, .int .u8 0, .int .u8 0, .int .u8 0, .int .u8 0, .int .u8 0, .int .u8 0, .int .u8 0]) = hv key1 := rfl

theorem new_step {w0 w w' : World} {F F' : Nat → Prop} (hb : Below w0.heap.size w0 w) (hF : ∀ k, F k → w0.heap.size ≤ k) (hc : Chg F w w') (hF' : ∀ k, F' k → F k ∨ w.heap.size ≤ k) : Below w0.heap.size w0 w' ∧ ∀ k, F' k → w0.heap.size ≤ k :=
  ⟨hb.trans ⟨hc.os, hc.tape, hc.output, hc.size, fun k hk => hc.block k (Nat.lt_of_lt_of_le hk hb.size) (fun h => by have := hF k h; omega)⟩, fun k hk => (hF' k hk).elim (hF k) (fun h => Nat.le_trans hb.size h)⟩

set_option maxHeartbeats 1000000 in
set_option maxRecDepth 8000 in
theorem fixed_true (w : World) : Calls Try.prog 23 #[] w fun e w' => e = .returned (.bool true) ∧ Below w.heap.size w w' := by
  go_enter Try.func23, Try.ntmps23
  go_wp2_with (first
    | (go_at_call 6; refine (new_dA _).mono ?_; rintro en w1 ⟨D, F, rfl, hb1, hA1, hF1⟩; have HA1 := Lib.hid hA1; have HB1 := Lib.hid hb1; have HF1 := Lib.hid hF1; clear hb1 hA1 hF1)
    | (go_at_call 12; rw [key_lit]; refine (put_dB (HA1.out.below (by (repeat (first | exact Below.refl _ _ | refine bg_al ?_ | refine bg_gr ?_ | refine bg_drn ?_ | refine bg_dr ?_ | assumption)))) (sb_lit rfl rfl rfl (by decide))).mono ?_; rintro en w2 ⟨F2, rfl, hA2, hb2, hc2, hf2⟩; have HS2 := Lib.hid (new_step (w0 := w) (by have hb1 := HB1.out; (repeat (first | exact Below.refl _ _ | refine bg_al ?_ | refine bg_gr ?_ | refine bg_drn ?_ | refine bg_dr ?_ | assumption))) HF1.out hc2 hf2); have HA2 := Lib.hid hA2; clear hb2 hA2 hc2 hf2)
    | (go_at_call 14; refine (append_dC (HA2.out.below (by (repeat (first | exact Below.refl _ _ | refine bg_al ?_ | refine bg_gr ?_ | refine bg_drn ?_ | refine bg_dr ?_ | assumption)))) (sb_lit rfl rfl rfl (by decide))).mono ?_; rintro en w3 ⟨F3, rfl, hA3, hb3, hc3, hf3⟩; have HS3 := Lib.hid (new_step (w0 := w) (by have hb2 := HS2.out.1; (repeat (first | exact Below.refl _ _ | refine bg_al ?_ | refine bg_gr ?_ | refine bg_drn ?_ | refine bg_dr ?_ | assumption))) HS2.out.2 hc3 hf3); have HA3 := Lib.hid hA3; clear hb3 hA3 hc3 hf3)
    | (go_at_call 8; rw [key_lit]; refine (get_dD HA3.out).mono ?_; rintro en w4 ⟨F4, A4, c4, rfl, hs4, hA4, hb4, hc4, hf4⟩; have HS4' := Lib.hid (new_step (w0 := w) HS3.out.1 HS3.out.2 hc4 hf4); have HS4 := Lib.hid hs4; have HA4 := Lib.hid hA4; clear hs4 hA4 hb4 hc4 hf4)
    | (go_at_call 10; refine (read_dE HA4.out).mono ?_; rintro en w5 ⟨F5, A5, c5, rfl, hs5, hA5, hb5, hc5, hf5⟩; have HS5' := Lib.hid (new_step (w0 := w) HS4'.out.1 HS4'.out.2 hc5 hf5); have HA5 := Lib.hid hA5; have hcv5 := convS hs5.1; have hcv4 := convS (Byk.db HS4.out hb5).1; clear hs5 hA5 hb5 hc5 hf5)
    | (go_at_call 20; refine (acc_dE HA5.out).mono ?_; rintro en w6 ⟨A6, c6, rfl, hb6⟩; have HB6 := Lib.hid hb6; clear hb6))
  go_ret
  exact ⟨rfl, bel_trans HS5'.out.1 HB6.out⟩
end Go.Proofs.Ytcbglojjbgenlaa
