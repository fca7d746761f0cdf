/- Honest accesses that note no key: refused ones, Get, Read, Append, Trim, Cut, Load, Store. Honest accesses, one by one. Honest accesses that note a key: Put, Delete. Put and Delete as accesses of a device by no choice. -/
import Derived.Test.YtcbglojjbgenlaaHnB
namespace Go.Proofs.Ytcbglojjbgenlaa
open Go.RowKit Go.MapL Go.ChangeMaps Go.MapKept
set_option linter.unusedSimpArgs false
set_option linter.unusedVariables false

theorem tf_cells {w2 : World} {k : Nat} {c : Array Value} {t : TypeId} {fr : Nat × Nat} (hk : w2.heap[k]? = some (.cells c t fr)) (ht : t ≠ 84 ∧ t ≠ 95 ∧ t ≠ 82) : ¬ Tf w2 k := by
  rintro (⟨es, clk, h⟩ | ⟨c', t', fr', h, h3⟩)
  · rw [hk] at h; cases h
  · rw [hk] at h; injection h with h; injection h with _ h
    subst h
    rcases h3 with h3 | h3 | h3
    · exact ht.1 h3
    · exact ht.2.1 h3
    · exact ht.2.2 h3
theorem tf_deed {w2 w' : World} {A : Nat} {kind n cnt : Int} {q tag : H32} {da ks : Value} (h : DeedAt w2 A kind q da ks n cnt tag) (hc : Chg (Tf w2) w2 w') : DeedAt w' A kind q da ks n cnt tag := deed_chg h hc (tf_cells h (by decide))
theorem tf_db {w2 w' : World} {F : Nat → Prop} {v : Value} {l : Bs} (h : DB w2 F v l) (hc : Chg (Tf w2) w2 w') : DB w' F v l := h.chg hc (fun k ⟨cs, fr, hk⟩ => tf_cells hk (by decide))

theorem mid_mk {w W w2 : World} {D A : Nat} {F : Nat → Prop} {d : Dv} {m : Mm} (hI : Core w D F (fun k => k = m.B ∨ k = m.V) d m) {kind n cnt : Int} {q tag : H32} {da ks : Value} (hA : DeedAt w A kind q da ks n cnt tag) (hcW : Chg (fun k => k = D) w W) {N : Nat} (hN : w.heap.size ≤ N) (hmN : MapIs HC W N (fun _ => none) 0)
    (hc2 : Chg (fun k => k = D ∨ k = A) W w2) (d1 : Dv) (hb : d1.blobs = d.blobs ∧ d1.n = d.n ∧ d1.vers = d.vers) (lv : Value) (hd2 : DevAt w2 D (fdOf d1 { m with lv := lv, nb := .map (some N), nl := m.lv })) (hl : DB w2 (Grown F w w2) lv d1.log)
    (hdd : ∃ q da ks n cnt tag, DeedAt w2 A kind q da ks n cnt tag) (T : World → Prop) (hT : T w2) : Mid w D A F d1 m kind (fun _ => none) 0 T N w2 (fdOf d1 { m with lv := lv, nb := .map (some N), nl := m.lv }) ∧ Chg (fun k => S0 w D A F m k ∨ k = N) W w2 := by
  have hDl : D < w.heap.size := s0_lt hI hA (Or.inl rfl)
  have hAl : A < w.heap.size := s0_lt hI hA (Or.inr (Or.inl rfl))
  have hc02 : Chg (fun k => k = D ∨ k = A) w w2 := (hcW.mono (fun k _ h => Or.inl h)).trans hc2
  have hS : Chg (S0 w D A F m) w w2 := hc02.mono (fun k _ h => h.elim Or.inl (fun h => Or.inr (Or.inl h)))
  have hsb : ∀ k, isBytes w k → ¬ S0 w D A F m k := fun k ⟨cs, fr, hk⟩ => s0_cells hI hA hk (by decide)
  have hdev := hI.dev
  unfold DevAt at hdev
  have hA' := hA
  unfold DeedAt at hA'
  have hne : ∀ k, ¬ (k = D ∨ k = A) → True := fun _ _ => trivial
  have hmapn : ∀ k es clk, w.heap[k]? = some (.map es clk) → ¬ (k = D ∨ k = A) := by
    rintro k es clk hk (rfl | rfl)
    · rw [hdev] at hk; cases hk
    · rw [hA'] at hk; cases hk
  have hcelln : ∀ k c t fr, w.heap[k]? = some (.cells c t fr) → (t ≠ 84 ∧ t ≠ 86) → ¬ (k = D ∨ k = A) := by
    rintro k c t fr hk ht (rfl | rfl)
    · rw [hdev] at hk; injection hk with hk; injection hk with _ hk; exact ht.1 hk.symm
    · rw [hA'] at hk; injection hk with hk; injection hk with _ hk; exact ht.2 hk.symm
  obtain ⟨es0, clk0, hh0⟩ := core_mapB hI
  obtain ⟨es1, clk1, hh1⟩ := core_mapV hI
  refine ⟨⟨lv, rfl, hd2, ?_, ?_, hl, ⟨_, map_chg hmN hc2 ?_, fun q => trivial⟩, hdd, hT, hS⟩, hc2.mono (fun k _ h => Or.inl (h.elim Or.inl (fun h => Or.inr (Or.inl h))))⟩
  · rw [hb.1, hb.2.1]
    exact hI.blobs.chg hc02 (hmapn _ _ _ hh0) (fun k ⟨cs, fr, hk⟩ => hcelln k _ _ _ hk (by decide)) grown_old
  · rw [hb.2.2]
    exact hI.vers.chg hc02 (hmapn _ _ _ hh1) (fun k c fr hk => hcelln k _ _ _ hk (by decide)) (fun k ⟨cs, fr, hk⟩ => hcelln k _ _ _ hk (by decide)) grown_old
  · rintro (h | h) <;> omega

theorem chgC_log {w : World} {D A : Nat} {F : Nat → Prop} {d d1 : Dv} {kind n cnt : Int} {q tag : H32} {da ks : Value} (hA : DeedAt w A kind q da ks n cnt tag) (T : World → Prop) {m : Mm} {W : World} {N : Nat} {f2 : Fd} (hI : Core w D F (fun k => k = m.B ∨ k = m.V) d m) (hM : Mid w D A F d1 m kind (fun _ => none) 0 T N W f2) :
    Calls Try.prog 44 #[.pointer (some ⟨D, 0, none⟩)] W fun e w' => e = .returned (.bool (!(d.log == d1.log))) ∧ Below W.heap.size W w' := by
  obtain ⟨lv, rfl, hd2, hB2, hV2, hl2, ⟨mo, hmo, hro⟩, hdd, hT2, hc02⟩ := hM
  have hl := (hI.log.chg hc02 (fun k ⟨cs, fr, hk⟩ => s0_cells hI hA hk (by decide))).1
  refine changed_empty D N 0 _ mo W hd2 rfl hmo (fun q => ?_) d.log d1.log hl hl2.1
  cases e : mo q with
  | none => rfl
  | some v =>
    have := hro q
    rw [e] at this
    exact this.elim

/-- what is remembered of a change of the log -/
def pastL (d d1 : Dv) : List Pc := if d.log = d1.log then d.past else d.past ++ [⟨fun _ => none, 0, d.log⟩]
/-- an access that notes no key -/
theorem acc_plain {w : World} {D A : Nat} {F : Nat → Prop} {d : Dv} (h : Awake w D F d) {kind n cnt : Int} {q tag : H32} {da ks : Value} (hA : DeedAt w A kind q da ks n cnt tag) (r : Int) (d1 : Dv) (T : World → Prop)
    (hcho : d1.cho = d.cho) (hvers : d1.vers = d.vers) (hdoes : DoesC w D A F d d1 kind r (fun _ => none) 0 T) (hT : ∀ w2 w', T w2 → Chg (Tf w2) w2 w' → T w')
    (hk : d.log ≠ d1.log → kind ≠ 9 ∧ kind ≠ 10) (hfew : d.acc.length < 1099511627776 ∧ d.past.length < 1099511627776) (hlow : d1.log.length ≤ 1048576) :
    Calls Try.prog 35 #[.pointer (some ⟨D, 0, none⟩), .pointer (some ⟨A, 0, none⟩)] w fun e w' => e = .returned (.int .i64 r) ∧
      Awake w' D (Grown F w w') { d1 with acc := d.acc ++ [(kind, 0, r == 0)], past := pastL d d1 } ∧ T w' ∧ Chg (fun k => (F k ∨ k = A) ∧ ¬ isBytes w k) w w' := by
  by_cases hl : d.log = d1.log
  · unfold pastL
    rw [if_pos hl]
    refine acc_gen_no h hA r d1 _ _ T hcho hdoes (fun m W N f2 hI hN hM => (chgC_log hA T hI hM).mono ?_) hT hfew.1 hlow (by rw [hvers]; exact h.few.2.2)
    rintro e w' ⟨rfl, hb⟩
    exact ⟨by rw [hl]; simp, Below.chg _ hb⟩
  · unfold pastL
    rw [if_neg hl]
    obtain ⟨k1, k2⟩ := hk hl
    refine acc_gen_ch h hA r d1 _ _ T hcho hdoes (fun m W N f2 hI hN hM => (chgC_log hA T hI hM).mono ?_) hT (by simpa using k1) (by simpa using k2) hfew hlow (by rw [hvers]; exact h.few.2.2)
    rintro e w' ⟨rfl, hb⟩
    exact ⟨by rw [beq_eq_false_iff_ne.2 hl]; rfl, hb⟩

section
variable {w : World} {D A : Nat} {F : Nat → Prop} {d : Dv} {kind n cnt : Int} {q tag : H32} {da ks : Value}

/-- a refused access -/
theorem doesC_no (hA : DeedAt w A kind q da ks n cnt tag) (r : Int) (hr : r ≠ 0)
    (hR : ∀ m W N mB, DevAt W D { fdOf d m with nb := .map (some N), nl := m.lv } → DeedAt W A kind q da ks n cnt tag → MapIs HC W m.B mB d.n → (∀ q, (mB q).isSome = (d.blobs q).isSome) → (∃ lA lc, m.lv = .slice lA d.log.length lc) →
      Calls Try.prog 63 #[.pointer (some ⟨D, 0, none⟩), .pointer (some ⟨A, 0, none⟩)] W fun e w' => e = .returned (.int .i64 r) ∧ ∃ k, w' = W.drewN k) :
    DoesC w D A F d d kind r (fun _ => none) 0 (fun w' => DeedAt w' A kind q da ks n cnt tag) := by
  intro m W N hI hcW hN hNl hmN hdW
  have hDA : D ≠ A := dev_ne_deed hI.dev hA
  have hAW := deed_chg hA hcW (fun e => hDA e.symm)
  obtain ⟨mB, hmB, hrB⟩ := hI.blobs
  obtain ⟨lA, lc, hlv, -⟩ := hI.log.1
  refine (does_no D A r W hr (hR m W N mB hdW hAW (map_chg hmB hcW (map_ne_cells hmB hI.dev)) (fun q => (hrB q).none) ⟨lA, lc, hlv⟩)).mono ?_
  rintro e w2 ⟨rfl, k, rfl⟩
  have hc2 : Chg (fun k => k = D ∨ k = A) W (W.drewN k) := (Chg.refl _ W).drewN k
  have hsb : ∀ k, isBytes w k → ¬ (k = D) := by
    rintro k ⟨cs, fr, hk⟩ rfl
    have := hI.dev
    unfold DevAt at this
    rw [hk] at this
    injection this with this
    injection this with _ this
    exact absurd this (by decide)
  obtain ⟨h1, h2⟩ := mid_mk hI hA hcW hN hmN hc2 d ⟨rfl, rfl, rfl⟩ m.lv hdW ((hI.log.chg (hcW.drewN k) hsb).mono grown_old) ⟨_, _, _, _, _, _, hAW⟩ (fun w' => DeedAt w' A kind q da ks n cnt tag) hAW
  exact ⟨rfl, _, h1, h2⟩

theorem acc_no (h : Awake w D F d) (hA : DeedAt w A kind q da ks n cnt tag) (r : Int) (hr : r ≠ 0)
    (hR : ∀ m W N mB, DevAt W D { fdOf d m with nb := .map (some N), nl := m.lv } → DeedAt W A kind q da ks n cnt tag → MapIs HC W m.B mB d.n → (∀ q, (mB q).isSome = (d.blobs q).isSome) → (∃ lA lc, m.lv = .slice lA d.log.length lc) →
      Calls Try.prog 63 #[.pointer (some ⟨D, 0, none⟩), .pointer (some ⟨A, 0, none⟩)] W fun e w' => e = .returned (.int .i64 r) ∧ ∃ k, w' = W.drewN k) (hfew : d.acc.length < 1099511627776 ∧ d.past.length < 1099511627776) :
    Calls Try.prog 35 #[.pointer (some ⟨D, 0, none⟩), .pointer (some ⟨A, 0, none⟩)] w fun e w' => e = .returned (.int .i64 r) ∧
      Awake w' D (Grown F w w') { d with acc := d.acc ++ [(kind, 0, false)] } ∧ DeedAt w' A kind q da ks n cnt tag ∧ Chg (fun k => (F k ∨ k = A) ∧ ¬ isBytes w k) w w' := by
  refine (acc_plain h hA r d (fun w' => DeedAt w' A kind q da ks n cnt tag) rfl rfl (doesC_no hA r hr hR) (fun w2 w' h hc => tf_deed h hc) (fun e => absurd rfl e) hfew h.low).mono ?_
  rintro e w' ⟨rfl, h1, h2, h3⟩
  unfold pastL at h1
  rw [if_pos rfl, show (r == 0) = false from by simpa using hr] at h1
  exact ⟨rfl, h1, h2, h3⟩

theorem dev_notbytes {f : Fd} (hD : DevAt w D f) : ∀ k, isBytes w k → ¬ k = D := by
  rintro k ⟨cs, fr, hk⟩ rfl
  unfold DevAt at hD
  rw [hk] at hD
  injection hD with hD
  injection hD with _ hD
  exact absurd hD (by decide)
theorem deed_notbytes (hA : DeedAt w A kind q da ks n cnt tag) : ∀ k, isBytes w k → ¬ k = A := by
  rintro k ⟨cs, fr, hk⟩ rfl
  unfold DeedAt at hA
  rw [hk] at hA
  injection hA with hA
  injection hA with _ hA
  exact absurd hA (by decide)

/-- an access that keeps the device and writes the deed -/
theorem doesC_tell (hA : DeedAt w A kind q da ks n cnt tag) (d1 : Dv) (hd1 : d1.blobs = d.blobs ∧ d1.n = d.n ∧ d1.vers = d.vers ∧ d1.log = d.log) (hfd : ∀ m N, fdOf d1 { m with nb := .map (some N), nl := m.lv } = { fdOf d m with nb := .map (some N), nl := m.lv }) (T : World → Prop)
    (hR : ∀ m W N mB, Core w D F (fun k => k = m.B ∨ k = m.V) d m → Chg (fun k => k = D) w W → DevAt W D { fdOf d m with nb := .map (some N), nl := m.lv } → DeedAt W A kind q da ks n cnt tag → MapIs HC W m.B mB d.n → (∀ q, OptR (DB w F) (mB q) (d.blobs q)) →
      Calls Try.prog 62 #[.pointer (some ⟨D, 0, none⟩), .pointer (some ⟨A, 0, none⟩)] W fun e w' => e = .returned (.int .i64 0) ∧ (∃ q da ks n cnt tag, DeedAt w' A kind q da ks n cnt tag) ∧ T w' ∧ Chg (fun k => k = A) W w') :
    DoesC w D A F d d1 kind 0 (fun _ => none) 0 T := by
  intro m W N hI hcW hN hNl hmN hdW
  have hDA : D ≠ A := dev_ne_deed hI.dev hA
  have hAW := deed_chg hA hcW (fun e => hDA e.symm)
  obtain ⟨mB, hmB, hrB⟩ := hI.blobs
  refine (hR m W N mB hI hcW hdW hAW (map_chg hmB hcW (map_ne_cells hmB hI.dev)) hrB).mono ?_
  rintro e w2 ⟨rfl, hdd, hT2, hc2⟩
  have hc2' : Chg (fun k => k = D ∨ k = A) W w2 := hc2.mono (fun k _ h => Or.inr h)
  have hc02 : Chg (fun k => k = D ∨ k = A) w w2 := (hcW.mono (fun k _ h => Or.inl h)).trans hc2'
  have hd2 := dev_chg hdW hc2 hDA
  rw [← hfd] at hd2
  obtain ⟨h1, h2⟩ := mid_mk hI hA hcW hN hmN hc2' d1 ⟨hd1.1, hd1.2.1, hd1.2.2.1⟩ m.lv hd2 (by
    rw [hd1.2.2.2]
    exact (hI.log.chg hc02 (fun k hk h => h.elim (dev_notbytes hI.dev k hk) (deed_notbytes hA k hk))).mono grown_old) hdd T hT2
  exact ⟨rfl, _, h1, h2⟩

/-- an access that writes the device's own cells alone -/
theorem doesC_own (hA : DeedAt w A kind q da ks n cnt tag) (d1 : Dv) (hd1 : d1.blobs = d.blobs ∧ d1.n = d.n ∧ d1.vers = d.vers)
    (hR : ∀ m W N mB, Core w D F (fun k => k = m.B ∨ k = m.V) d m → Chg (fun k => k = D) w W → DevAt W D { fdOf d m with nb := .map (some N), nl := m.lv } → DeedAt W A kind q da ks n cnt tag → MapIs HC W m.B mB d.n →
      Calls Try.prog 62 #[.pointer (some ⟨D, 0, none⟩), .pointer (some ⟨A, 0, none⟩)] W fun e w' => e = .returned (.int .i64 0) ∧ ∃ lv, DevAt w' D (fdOf d1 { m with lv := lv, nb := .map (some N), nl := m.lv }) ∧ DB w' (Grown F w w') lv d1.log ∧ Chg (fun k => k = D) W w') :
    DoesC w D A F d d1 kind 0 (fun _ => none) 0 (fun w' => DeedAt w' A kind q da ks n cnt tag) := by
  intro m W N hI hcW hN hNl hmN hdW
  have hDA : D ≠ A := dev_ne_deed hI.dev hA
  have hAW := deed_chg hA hcW (fun e => hDA e.symm)
  obtain ⟨mB, hmB, hrB⟩ := hI.blobs
  refine (hR m W N mB hI hcW hdW hAW (map_chg hmB hcW (map_ne_cells hmB hI.dev))).mono ?_
  rintro e w2 ⟨rfl, lv, hd2, hl2, hc2⟩
  have hA2 := deed_chg hAW hc2 (fun e => hDA e.symm)
  obtain ⟨h1, h2⟩ := mid_mk hI hA hcW hN hmN (hc2.mono (fun k _ h => Or.inl h)) d1 hd1 lv hd2 hl2 ⟨_, _, _, _, _, _, hA2⟩ (fun w' => DeedAt w' A kind q da ks n cnt tag) hA2
  exact ⟨rfl, _, h1, h2⟩
end
end Go.Proofs.Ytcbglojjbgenlaa
namespace Go.Proofs.Ytcbglojjbgenlaa
open Go.RowKit Go.MapL Go.ChangeMaps Go.MapKept
set_option linter.unusedSimpArgs false
set_option linter.unusedVariables false

theorem db_trim {w : World} {F : Nat → Prop} {lA : Option Addr} {ln lc k : Nat} {l : Bs} (h : DB w F (.slice lA ln lc) l) (hk : k ≤ ln) : DB w F (LogTrim lA ln lc k) (l.drop k) := by
  obtain ⟨⟨A, c, e, hr, h1, h2, h3⟩, hv⟩ := h
  injection e with e1 e2 e3
  subst e1 e3
  refine ⟨⟨cutA lA lc k, lc - k, by unfold LogTrim; rw [List.length_drop, e2], hr.cut h1, by rw [List.length_drop]; omega, by omega, fun he => ?_⟩, fun b hb => ?_⟩
  · unfold cutA at he
    split at he
    · omega
    · cases lA with
      | none => have := h3 rfl; omega
      | some a => cases he
  · refine hv b ?_
    unfold LogTrim cutA at hb
    split at hb
    · cases lA with
      | none => simp [vBlock] at hb
      | some a => exact hb
    · cases lA with
      | none => simp [vBlock] at hb
      | some a =>
        simp only [Option.map_some, vBlock, Option.some.injEq] at hb
        rw [← hb]
        unfold Addr.add
        split <;> rfl
theorem db_cut {w : World} {F : Nat → Prop} {lA : Option Addr} {ln lc k : Nat} {l : Bs} (h : DB w F (.slice lA ln lc) l) (hk : k ≤ ln) : DB w F (LogCut lA k) (l.take k) := by
  obtain ⟨⟨A, c, e, hr, h1, h2, h3⟩, hv⟩ := h
  injection e with e1 e2 e3
  subst e1 e3
  refine ⟨⟨lA, k, by unfold LogCut; rw [List.length_take]; congr 1; omega, hr.take k, by rw [List.length_take]; omega, by omega, fun he => ?_⟩, fun b hb => hv b ?_⟩
  · have := h3 he
    omega
  · unfold LogCut at hb
    cases lA with
    | none => simp [vBlock] at hb
    | some a => exact hb

variable {w : World} {D A : Nat} {F : Nat → Prop} {d : Dv} {n cnt : Int} {q tag : H32} {da ks : Value}

theorem acc_trim2 (h : Awake w D F d) {k : Nat} (hA : DeedAt w A 7 q da ks k cnt tag) (hk : k ≤ d.log.length) (hfew : d.acc.length < 1099511627776 ∧ d.past.length < 1099511627776) :
    Calls Try.prog 35 #[.pointer (some ⟨D, 0, none⟩), .pointer (some ⟨A, 0, none⟩)] w fun e w' => e = .returned (.int .i64 0) ∧
      Awake w' D (Grown F w w') { d with log := d.log.drop k, acc := d.acc ++ [(7, 0, true)], past := pastL d { d with log := d.log.drop k } } ∧ DeedAt w' A 7 q da ks k cnt tag ∧ Chg (fun k => (F k ∨ k = A) ∧ ¬ isBytes w k) w w' := by
  refine acc_plain h hA 0 { d with log := d.log.drop k } (fun w' => DeedAt w' A 7 q da ks k cnt tag) rfl rfl (doesC_own hA _ ⟨rfl, rfl, rfl⟩ ?_) (fun w2 w' h hc => tf_deed h hc) (fun _ => by decide) hfew (by have := h.low; simp; omega)
  intro m W N mB hI hcW hdW hAW hmB
  have hlog := hI.log
  obtain ⟨lA, lc, hlv, -, h1, h2, -⟩ := hI.log.1
  rw [hlv] at hlog
  refine (does_trim D A m.B d.n _ mB q da ks k cnt tag W hdW hAW rfl hmB lA d.log.length lc hlv hk h1 (by simp only [maxLen] at h2; omega)).mono ?_
  rintro e w2 ⟨rfl, hd2, hc2⟩
  refine ⟨rfl, _, hd2, ?_, hc2⟩
  exact ((db_trim hlog hk).chg (hcW.trans hc2) (dev_notbytes hI.dev)).mono grown_old

theorem acc_cut2 (h : Awake w D F d) {k : Nat} (hA : DeedAt w A 8 q da ks k cnt tag) (hk : k ≤ d.log.length) (hfew : d.acc.length < 1099511627776 ∧ d.past.length < 1099511627776) :
    Calls Try.prog 35 #[.pointer (some ⟨D, 0, none⟩), .pointer (some ⟨A, 0, none⟩)] w fun e w' => e = .returned (.int .i64 0) ∧
      Awake w' D (Grown F w w') { d with log := d.log.take k, acc := d.acc ++ [(8, 0, true)], past := pastL d { d with log := d.log.take k } } ∧ DeedAt w' A 8 q da ks k cnt tag ∧ Chg (fun k => (F k ∨ k = A) ∧ ¬ isBytes w k) w w' := by
  refine acc_plain h hA 0 { d with log := d.log.take k } (fun w' => DeedAt w' A 8 q da ks k cnt tag) rfl rfl (doesC_own hA _ ⟨rfl, rfl, rfl⟩ ?_) (fun w2 w' h hc => tf_deed h hc) (fun _ => by decide) hfew (by have := h.low; simp; omega)
  intro m W N mB hI hcW hdW hAW hmB
  have hlog := hI.log
  obtain ⟨lA, lc, hlv, -, h1, h2, -⟩ := hI.log.1
  rw [hlv] at hlog
  refine (does_cut D A m.B d.n _ mB q da ks k cnt tag W hdW hAW rfl hmB lA d.log.length lc hlv hk h1 (by simp only [maxLen] at h2; omega)).mono ?_
  rintro e w2 ⟨rfl, hd2, hc2⟩
  refine ⟨rfl, _, hd2, ?_, hc2⟩
  exact ((db_cut hlog hk).chg (hcW.trans hc2) (dev_notbytes hI.dev)).mono grown_old

theorem acc_append2 (h : Awake w D F d) (hA : DeedAt w A 6 q da ks n cnt tag) (ld : Bs) (hda : SB w da ld) (hdaD : ∀ a, vBlock da = some a → a ≠ D) (hroom : (d.log.length : Int) + ld.length ≤ d.room) (hr2 : d.room ≤ 1048576) (hfew : d.acc.length < 1099511627776 ∧ d.past.length < 1099511627776) :
    Calls Try.prog 35 #[.pointer (some ⟨D, 0, none⟩), .pointer (some ⟨A, 0, none⟩)] w fun e w' => e = .returned (.int .i64 0) ∧
      Awake w' D (Grown F w w') { d with log := d.log ++ ld, acc := d.acc ++ [(6, 0, true)], past := pastL d { d with log := d.log ++ ld } } ∧ DeedAt w' A 6 q da ks n cnt tag ∧ Chg (fun k => (F k ∨ k = A) ∧ ¬ isBytes w k) w w' := by
  refine acc_plain h hA 0 { d with log := d.log ++ ld } (fun w' => DeedAt w' A 6 q da ks n cnt tag) rfl rfl (doesC_own hA _ ⟨rfl, rfl, rfl⟩ ?_) (fun w2 w' h hc => tf_deed h hc) (fun _ => by decide) hfew (by simp; omega)
  intro m W N mB hI hcW hdW hAW hmB
  have hdaW : SB W da ld := by
    obtain ⟨A', c', e, hr', h1', h2', h3'⟩ := hda
    refine ⟨A', c', e, hr'.chg hcW (fun a ha e => ?_), h1', h2', h3'⟩
    exact hdaD a.block (by rw [‹da = _›, ha]; rfl) e
  refine (does_append D A m.B d.n _ mB q da ks n cnt tag W hdW hAW rfl hmB d.log ld (hI.log.chg hcW (dev_notbytes hI.dev)).1 hdaW hroom (by have := h.low; omega)).mono ?_
  rintro e w2 ⟨l2A, l2c, rfl, hd2, ho2, hc2⟩
  exact ⟨rfl, _, hd2, DB.own ho2 (fun k h1 h2 => Or.inr ⟨by have := hcW.size; omega, h2⟩), hc2⟩

theorem acc_store2 (h : Awake w D F d) (hA : DeedAt w A 10 q da ks n cnt tag) (hnew : d.cnt < cnt) (hfew : d.acc.length < 1099511627776 ∧ d.past.length < 1099511627776) :
    Calls Try.prog 35 #[.pointer (some ⟨D, 0, none⟩), .pointer (some ⟨A, 0, none⟩)] w fun e w' => e = .returned (.int .i64 0) ∧
      Awake w' D (Grown F w w') { d with cnt := cnt, tag := tag, acc := d.acc ++ [(10, 0, true)] } ∧ DeedAt w' A 10 q da ks n cnt tag ∧ Chg (fun k => (F k ∨ k = A) ∧ ¬ isBytes w k) w w' := by
  have hp : pastL d { d with cnt := cnt, tag := tag } = d.past := if_pos rfl
  refine (acc_plain h hA 0 { d with cnt := cnt, tag := tag } (fun w' => DeedAt w' A 10 q da ks n cnt tag) rfl rfl (doesC_own hA _ ⟨rfl, rfl, rfl⟩ ?_) (fun w2 w' h hc => tf_deed h hc) (fun e => absurd rfl e) hfew h.low).mono ?_
  · intro m W N mB hI hcW hdW hAW hmB
    refine (does_store D A m.B d.n _ mB q da ks n cnt tag W hdW hAW rfl hmB hnew).mono ?_
    rintro e w2 ⟨rfl, hd2, hc2⟩
    exact ⟨rfl, m.lv, hd2, (hI.log.chg (hcW.trans hc2) (dev_notbytes hI.dev)).mono grown_old, hc2⟩
  · rintro e w' ⟨rfl, h1, h2, h3⟩
    rw [hp] at h1
    exact ⟨rfl, h1, h2, h3⟩

theorem acc_load2 (h : Awake w D F d) (hA : DeedAt w A 9 q da ks n cnt tag) (hfew : d.acc.length < 1099511627776 ∧ d.past.length < 1099511627776) :
    Calls Try.prog 35 #[.pointer (some ⟨D, 0, none⟩), .pointer (some ⟨A, 0, none⟩)] w fun e w' => e = .returned (.int .i64 0) ∧
      Awake w' D (Grown F w w') { d with acc := d.acc ++ [(9, 0, true)] } ∧ DeedAt w' A 9 q da ks n d.cnt d.tag ∧ Chg (fun k => (F k ∨ k = A) ∧ ¬ isBytes w k) w w' := by
  have hp : pastL d d = d.past := if_pos rfl
  refine (acc_plain h hA 0 d (fun w' => DeedAt w' A 9 q da ks n d.cnt d.tag) rfl rfl (doesC_tell hA d ⟨rfl, rfl, rfl, rfl⟩ (fun _ _ => rfl) _ ?_) (fun w2 w' h hc => tf_deed h hc) (fun e => absurd rfl e) hfew h.low).mono ?_
  · intro m W N mB hI hcW hdW hAW hmB hrB
    refine (does_load D A m.B d.n _ mB q da ks n cnt tag W hdW hAW rfl hmB).mono ?_
    rintro e w2 ⟨rfl, hd2, hc2⟩
    exact ⟨rfl, ⟨_, _, _, _, _, _, hd2⟩, hd2, hc2⟩
  · rintro e w' ⟨rfl, h1, h2, h3⟩
    rw [hp] at h1
    exact ⟨rfl, h1, h2, h3⟩

/-- what an honest device refuses, and by which number -/
theorem acc_get_no (h : Awake w D F d) (hA : DeedAt w A 1 q da ks n cnt tag) (hno : d.blobs q = none) (hfew : d.acc.length < 1099511627776 ∧ d.past.length < 1099511627776) :
    Calls Try.prog 35 #[.pointer (some ⟨D, 0, none⟩), .pointer (some ⟨A, 0, none⟩)] w fun e w' => e = .returned (.int .i64 81) ∧ Awake w' D (Grown F w w') { d with acc := d.acc ++ [(1, 0, false)] } ∧ DeedAt w' A 1 q da ks n cnt tag ∧ Chg (fun k => (F k ∨ k = A) ∧ ¬ isBytes w k) w w' :=
  acc_no h hA 81 (by decide) (fun m W N mB hdW hAW hmB hiso _ => refuses_get_no D A m.B d.n _ mB q da ks n cnt tag W hdW hAW rfl hmB _ rfl (by rw [hiso, hno]; rfl)) hfew
theorem acc_delete_no (h : Awake w D F d) (hA : DeedAt w A 3 q da ks n cnt tag) (hno : d.blobs q = none) (hfew : d.acc.length < 1099511627776 ∧ d.past.length < 1099511627776) :
    Calls Try.prog 35 #[.pointer (some ⟨D, 0, none⟩), .pointer (some ⟨A, 0, none⟩)] w fun e w' => e = .returned (.int .i64 81) ∧ Awake w' D (Grown F w w') { d with acc := d.acc ++ [(3, 0, false)] } ∧ DeedAt w' A 3 q da ks n cnt tag ∧ Chg (fun k => (F k ∨ k = A) ∧ ¬ isBytes w k) w w' :=
  acc_no h hA 81 (by decide) (fun m W N mB hdW hAW hmB hiso _ => refuses_delete_no D A m.B d.n _ mB q da ks n cnt tag W hdW hAW rfl hmB _ rfl (by rw [hiso, hno]; rfl)) hfew
theorem acc_put_no (h : Awake w D F d) (hA : DeedAt w A 2 q da ks n cnt tag) (hno : d.blobs q = none) (hfull : d.slots ≤ (d.n : Int)) (hfew : d.acc.length < 1099511627776 ∧ d.past.length < 1099511627776) :
    Calls Try.prog 35 #[.pointer (some ⟨D, 0, none⟩), .pointer (some ⟨A, 0, none⟩)] w fun e w' => e = .returned (.int .i64 6) ∧ Awake w' D (Grown F w w') { d with acc := d.acc ++ [(2, 0, false)] } ∧ DeedAt w' A 2 q da ks n cnt tag ∧ Chg (fun k => (F k ∨ k = A) ∧ ¬ isBytes w k) w w' :=
  acc_no h hA 6 (by decide) (fun m W N mB hdW hAW hmB hiso _ => refuses_put_no D A m.B d.n _ mB q da ks n cnt tag W hdW hAW rfl hmB _ rfl (by rw [hiso, hno]; rfl) hfull) hfew
theorem acc_append_no (h : Awake w D F d) {dA : Option Addr} {dn dc : Nat} (hA : DeedAt w A 6 q (.slice dA dn dc) ks n cnt tag) (hdn : dn ≤ 1048576 * 1048575) (hfull : d.room < (d.log.length : Int) + dn) (hfew : d.acc.length < 1099511627776 ∧ d.past.length < 1099511627776) :
    Calls Try.prog 35 #[.pointer (some ⟨D, 0, none⟩), .pointer (some ⟨A, 0, none⟩)] w fun e w' => e = .returned (.int .i64 6) ∧ Awake w' D (Grown F w w') { d with acc := d.acc ++ [(6, 0, false)] } ∧ DeedAt w' A 6 q (.slice dA dn dc) ks n cnt tag ∧ Chg (fun k => (F k ∨ k = A) ∧ ¬ isBytes w k) w w' :=
  acc_no h hA 6 (by decide) (fun m W N mB hdW hAW hmB hiso ⟨lA, lc, hl⟩ => refuses_append_no D A m.B d.n _ mB q _ ks n cnt tag W hdW hAW rfl hmB _ rfl _ rfl lA d.log.length lc hl dA dn dc rfl (by have := h.low; omega) hfull) hfew
theorem acc_trim_no (h : Awake w D F d) (hA : DeedAt w A 7 q da ks n cnt tag) (hout : n < 0 ∨ (d.log.length : Int) < n) (hfew : d.acc.length < 1099511627776 ∧ d.past.length < 1099511627776) :
    Calls Try.prog 35 #[.pointer (some ⟨D, 0, none⟩), .pointer (some ⟨A, 0, none⟩)] w fun e w' => e = .returned (.int .i64 83) ∧ Awake w' D (Grown F w w') { d with acc := d.acc ++ [(7, 0, false)] } ∧ DeedAt w' A 7 q da ks n cnt tag ∧ Chg (fun k => (F k ∨ k = A) ∧ ¬ isBytes w k) w w' :=
  acc_no h hA 83 (by decide) (fun m W N mB hdW hAW hmB hiso ⟨lA, lc, hl⟩ => by
    by_cases h0 : n < 0
    · exact refuses_trim_neg D A m.B d.n _ mB q _ ks n cnt tag W hdW hAW rfl hmB _ rfl _ rfl lA d.log.length lc hl h0
    · exact refuses_trim_far D A m.B d.n _ mB q _ ks n cnt tag W hdW hAW rfl hmB _ rfl _ rfl lA d.log.length lc hl (by omega) (hout.resolve_left h0)) hfew
theorem acc_cut_no (h : Awake w D F d) (hA : DeedAt w A 8 q da ks n cnt tag) (hout : n < 0 ∨ (d.log.length : Int) < n) (hfew : d.acc.length < 1099511627776 ∧ d.past.length < 1099511627776) :
    Calls Try.prog 35 #[.pointer (some ⟨D, 0, none⟩), .pointer (some ⟨A, 0, none⟩)] w fun e w' => e = .returned (.int .i64 83) ∧ Awake w' D (Grown F w w') { d with acc := d.acc ++ [(8, 0, false)] } ∧ DeedAt w' A 8 q da ks n cnt tag ∧ Chg (fun k => (F k ∨ k = A) ∧ ¬ isBytes w k) w w' :=
  acc_no h hA 83 (by decide) (fun m W N mB hdW hAW hmB hiso ⟨lA, lc, hl⟩ => by
    by_cases h0 : n < 0
    · exact refuses_cut_neg D A m.B d.n _ mB q _ ks n cnt tag W hdW hAW rfl hmB _ rfl _ rfl lA d.log.length lc hl h0
    · exact refuses_cut_far D A m.B d.n _ mB q _ ks n cnt tag W hdW hAW rfl hmB _ rfl _ rfl lA d.log.length lc hl (by omega) (hout.resolve_left h0)) hfew
theorem acc_store_no (h : Awake w D F d) (hA : DeedAt w A 10 q da ks n cnt tag) (hold : cnt ≤ d.cnt) (hfew : d.acc.length < 1099511627776 ∧ d.past.length < 1099511627776) :
    Calls Try.prog 35 #[.pointer (some ⟨D, 0, none⟩), .pointer (some ⟨A, 0, none⟩)] w fun e w' => e = .returned (.int .i64 82) ∧ Awake w' D (Grown F w w') { d with acc := d.acc ++ [(10, 0, false)] } ∧ DeedAt w' A 10 q da ks n cnt tag ∧ Chg (fun k => (F k ∨ k = A) ∧ ¬ isBytes w k) w w' :=
  acc_no h hA 82 (by decide) (fun m W N mB hdW hAW hmB hiso _ => refuses_store_old D A m.B d.n _ mB q da ks n cnt tag W hdW hAW rfl hmB _ rfl _ rfl hold) hfew
end Go.Proofs.Ytcbglojjbgenlaa
namespace Go.Proofs.Ytcbglojjbgenlaa
open Go.RowKit Go.MapL Go.ChangeMaps Go.MapKept
set_option linter.unusedSimpArgs false
set_option linter.unusedVariables false

/-- what is remembered of a change of one key -/
noncomputable def noteK (d : Dv) (q : H32) : H32 → Option (Option Bs) := updO (fun _ => none) q (some (d.blobs q))
noncomputable def pastK (d : Dv) (q : H32) (x : Option Bs) : List Pc := if d.blobs q = x then d.past else d.past ++ [⟨noteK d q, 1, d.log⟩]
/-- a device behind a Put, a Delete, but for the notes -/
noncomputable def putD (d : Dv) (q : H32) (l : Bs) : Dv := { d with blobs := updO d.blobs q (some l), n := (if (d.blobs q).isSome then d.n else d.n + 1), vers := updL d.vers q (d.vers q ++ [l]) }
noncomputable def delD (d : Dv) (q : H32) : Dv := { d with blobs := updO d.blobs q none, n := d.n - 1 }

section
variable {w : World} {D A : Nat} {F : Nat → Prop} {d : Dv} {kind n cnt : Int} {q tag : H32} {da ks : Value}

theorem note_map {w2 : World} {X : Nat → Prop} {m : Mm} (hI : Core w D F X d m) (hA : DeedAt w A kind q da ks n cnt tag) {mB : H32 → Option Value} (hrB : ∀ q, OptR (DB w F) (mB q) (d.blobs q)) (key : H32) {N : Nat} {xo : Value} {xb : Bool}
    (hxo : (mB key).getD (.slice none 0 0) = xo) (hxb : (mB key).isSome = xb) (hmN : MapIs HC w2 N (putV (fun _ => none) key (.agg #[xo, .bool xb])) 1) (hc : Chg (S0 w D A F m) w w2) : MapO w2 (Grown F w w2) N (noteK d key) 1 := by
  refine ⟨_, hmN, fun q' => ?_⟩
  unfold noteK
  by_cases hq : q' = key
  · subst hq
    simp only [putV, updO, if_true]
    have hR := hrB q'
    refine ⟨xo, ?_, ?_⟩
    · rw [← hxb, hR.none]
    · cases e : d.blobs q' with
      | none =>
        rw [e] at hR
        have : mB q' = none := by cases h : mB q' with | none => rfl | some a => rw [h] at hR; exact hR.elim
        rw [this] at hxo
        subst hxo
        exact DB.nil _ _
      | some b =>
        rw [e] at hR
        obtain ⟨a, ha, hd⟩ := hR.some
        rw [ha] at hxo
        simp only [Option.getD_some] at hxo
        subst hxo
        exact (hd.chg hc (fun k ⟨cs, fr, hk⟩ => s0_cells hI hA hk (by decide))).mono grown_old
  · simp only [putV, updO, if_neg hq]
    trivial

theorem opt_none {v : Option Value} {x : Option Bs} (h : OptR (DB w F) v x) (hx : x = none) : v = none := by
  subst hx
  cases v with
  | none => rfl
  | some a => exact h.elim

theorem doesC_put {dA : Option Addr} {dc : Nat} {l : Bs} (h : Awake w D F d) (hA : DeedAt w A 2 q (.slice dA l.length dc) ks n cnt tag) (hdb : DB w F (.slice dA l.length dc) l) (hroom : (d.blobs q).isSome = true ∨ (d.n : Int) < d.slots) :
    DoesC w D A F d (putD d q l) 2 0 (noteK d q) 1 (fun w' => DeedAt w' A 2 q (.slice dA l.length dc) ks n cnt tag) := by
  intro m W N hI hcW hN hNl hmN hdW
  have hDA : D ≠ A := dev_ne_deed hI.dev hA
  have hAlt : A < w.heap.size := (Array.getElem?_eq_some_iff.1 hA).1
  have hDlt : D < w.heap.size := (Array.getElem?_eq_some_iff.1 hI.dev).1
  obtain ⟨mB, hmB, hrB⟩ := hI.blobs
  obtain ⟨mV, nV, hmV, h1, h2⟩ := hI.vers
  have hBlt := hmB.lt
  have hVlt := hmV.lt
  have hBD : m.B ≠ D := map_ne_cells hmB hI.dev
  have hBA : m.B ≠ A := map_ne_cells hmB hA
  have hVD : m.V ≠ D := map_ne_cells hmV hI.dev
  have hVA : m.V ≠ A := map_ne_cells hmV hA
  have hiso : (mB q).isSome = (d.blobs q).isSome := (hrB q).none
  obtain ⟨vo, vals9, hvo, hown9, hv9, hvoF⟩ : ∃ vo vals9, (mV q).getD (.slice none 0 0) = vo ∧ w.ownsRow 0 29 1 vo (d.vers q).length vals9 ∧ (∀ i (h : i < (d.vers q).length) (h' : i < vals9.length), DB w F vals9[i] (d.vers q)[i]) ∧ ∀ k, vo.ownBlock = some k → F k := by
    rcases h1 q with ⟨e, e'⟩ | ⟨v1, e, vals9, a1, a2, a3⟩
    · refine ⟨_, [], rfl, ?_, fun i hi => ?_, fun k hk => ?_⟩
      · rw [e, e']
        exact own_nil _ _ _ _
      · rw [e'] at hi
        simp at hi
      · rw [e] at hk
        simp [Value.ownBlock] at hk
    · exact ⟨v1, vals9, by rw [e]; rfl, a1, a2, a3⟩
  obtain ⟨oA, oc, hvs⟩ := row_slice hown9
  subst hvs
  have hoD : (Value.slice oA (d.vers q).length oc).ownBlock ≠ some D := fun e => row_ne_dev hown9 (by decide) hI.dev D e rfl
  have hoA : (Value.slice oA (d.vers q).length oc).ownBlock ≠ some A := fun e => row_ne_deed hown9 (by decide) hA A e rfl
  have hAW := deed_chg hA hcW (fun e => hDA e.symm)
  have hBW := map_chg hmB hcW hBD
  have hVW := map_chg hmV hcW hVD
  have hoW := own_chg hown9 hcW (fun k hk e => hoD (e ▸ hk))
  obtain ⟨xA, xn, xc, hxo⟩ : ∃ xA xn xc, (mB q).getD (.slice none 0 0) = .slice xA xn xc := by
    cases e : mB q with
    | none => exact ⟨_, _, _, rfl⟩
    | some v =>
      have hR := hrB q
      rw [e] at hR
      cases e2 : d.blobs q with
      | none => rw [e2] at hR; exact hR.elim
      | some b =>
        rw [e2] at hR
        obtain ⟨⟨xA, xc, e3, -⟩, -⟩ := (show DB w F v b from hR)
        exact ⟨xA, _, xc, e3⟩
  refine (does_put D A m.B N m.V d.n 0 nV _ mB (fun _ => none) mV q dA l.length dc ks n cnt tag W hdW hAW rfl rfl rfl (by omega) (fun e => hI.bv e.symm) (by omega) hBW hmN hVW rfl (hroom.imp (fun h => by rw [hiso]; exact h) id) xA xn xc _ hxo rfl _ rfl oA _ oc hvo vals9 hoW (h.few.2.2 q) hoD hoA).mono ?_
  rintro e w2 ⟨v9, nV', rfl, hB2, hN2, hV2, ho2, hk2, hc2⟩
  have hc2' : Chg (fun k => S0 w D A F m k ∨ k = N) W w2 := hc2.mono (fun k _ h => by
    rcases h with h | h | h | h
    · exact Or.inl (Or.inr (Or.inr (Or.inl h)))
    · exact Or.inr h
    · exact Or.inl (Or.inr (Or.inr (Or.inr (Or.inl h))))
    · obtain ⟨c, fr, hh⟩ := own_heap hown9 h
      exact Or.inl (Or.inr (Or.inr (Or.inr (Or.inr ⟨hvoF k h, c, fr, hh⟩)))))
  have hc02 : Chg (S0 w D A F m) w w2 := (Chg.trans (S := fun k => S0 w D A F m k ∨ k = N) (hcW.mono (fun k _ h => Or.inl (Or.inl h))) hc2').mono (fun k hk h => h.elim id (fun h => by omega))
  have hsb : ∀ k, isBytes w k → ¬ S0 w D A F m k := fun k ⟨cs, fr, hk⟩ => s0_cells hI hA hk (by decide)
  have hAn : ¬ (A = m.B ∨ A = N ∨ A = m.V ∨ (Value.slice oA (d.vers q).length oc).ownBlock = some A) := by
    rintro (e | e | e | e)
    · exact hBA e.symm
    · omega
    · exact hVA e.symm
    · exact hoA e
  have hDn : ¬ (D = m.B ∨ D = N ∨ D = m.V ∨ (Value.slice oA (d.vers q).length oc).ownBlock = some D) := by
    rintro (e | e | e | e)
    · exact hBD e.symm
    · omega
    · exact hVD e.symm
    · exact hoD e
  have hA2 := deed_chg hAW hc2 hAn
  have hd2 := dev_chg hdW hc2 hDn
  have hv2 : DB w2 (Grown F w w2) (.slice dA l.length dc) l := (hdb.chg hc02 hsb).mono grown_old
  have hz : w.heap.size ≤ W.heap.size := hcW.size
  refine ⟨rfl, _, ⟨m.lv, rfl, hd2, ?_, ?_, (hI.log.chg hc02 hsb).mono grown_old, note_map hI hA hrB q hxo rfl hN2 hc02, ⟨_, _, _, _, _, _, hA2⟩, hA2, hc02⟩, hc2'⟩
  · have := MapB.put hB2 hrB hc02 hsb grown_old hv2
    unfold putD
    simp only
    rw [← hiso]
    exact this
  · have hS : Chg (fun k => k = D ∨ k = m.B ∨ k = m.V ∨ (Value.slice oA (d.vers q).length oc).ownBlock = some k) w w2 :=
      (Chg.trans (S := fun k => (k = D ∨ k = m.B ∨ k = m.V ∨ (Value.slice oA (d.vers q).length oc).ownBlock = some k) ∨ k = N) (hcW.mono (fun k _ h => Or.inl (Or.inl h))) (hc2.mono (fun k _ h => by
        rcases h with h | h | h | h
        · exact Or.inl (Or.inr (Or.inl h))
        · exact Or.inr h
        · exact Or.inl (Or.inr (Or.inr (Or.inl h)))
        · exact Or.inl (Or.inr (Or.inr (Or.inr h)))))).mono (fun k hk h => h.elim id (fun h => by omega))
    have hdev := hI.dev
    unfold DevAt at hdev
    refine MapV.put h1 h2 hvo hV2 ho2 hown9 hv9 (hk2.imp id (fun ⟨k, a, b⟩ => ⟨k, by omega, b⟩)) hv2 hS (fun k c fr hk hSk => ?_) (fun k hb hSk => ?_) grown_old (fun k h1 h2 => Or.inr ⟨h1, h2⟩)
    · rcases hSk with rfl | rfl | rfl | h
      · rw [hdev] at hk; injection hk with hk; injection hk with _ hk; exact absurd hk (by decide)
      · exact absurd rfl (map_ne_cells hmB hk)
      · exact absurd rfl (map_ne_cells hmV hk)
      · exact h
    · obtain ⟨cs, fr, hk⟩ := hb
      rcases hSk with rfl | rfl | rfl | h
      · rw [hdev] at hk; injection hk with hk; injection hk with _ hk; exact absurd hk (by decide)
      · exact absurd rfl (map_ne_cells hmB hk)
      · exact absurd rfl (map_ne_cells hmV hk)
      · obtain ⟨_, _, hh⟩ := own_heap hown9 h
        rw [hk] at hh; injection hh with hh; injection hh with _ hh; exact absurd hh (by decide)

theorem doesC_delete (hA : DeedAt w A 3 q da ks n cnt tag) {l : Bs} (hl : d.blobs q = some l) :
    DoesC w D A F d (delD d q) 3 0 (noteK d q) 1 (fun w' => DeedAt w' A 3 q da ks n cnt tag) := by
  intro m W N hI hcW hN hNl hmN hdW
  have hDA : D ≠ A := dev_ne_deed hI.dev hA
  have hAlt : A < w.heap.size := (Array.getElem?_eq_some_iff.1 hA).1
  have hDlt : D < w.heap.size := (Array.getElem?_eq_some_iff.1 hI.dev).1
  obtain ⟨mB, hmB, hrB⟩ := hI.blobs
  have hBlt := hmB.lt
  have hBD : m.B ≠ D := map_ne_cells hmB hI.dev
  have hBA : m.B ≠ A := map_ne_cells hmB hA
  have hAW := deed_chg hA hcW (fun e => hDA e.symm)
  have hBW := map_chg hmB hcW hBD
  have hRq := hrB q
  rw [hl] at hRq
  obtain ⟨x, hx, hxd⟩ := hRq.some
  obtain ⟨xA, xc, rfl, hx0⟩ := hxd.1
  refine (does_delete D A m.B N d.n 0 _ mB (fun _ => none) q da ks n cnt tag W hdW hAW rfl rfl (by omega) hBW hmN rfl xA l.length xc hx).mono ?_
  rintro e w2 ⟨rfl, hB2, hN2, hc2⟩
  have hc2' : Chg (fun k => S0 w D A F m k ∨ k = N) W w2 := hc2.mono (fun k _ h => h.elim (fun h => Or.inl (Or.inr (Or.inr (Or.inl h)))) Or.inr)
  have hc02 : Chg (S0 w D A F m) w w2 := (Chg.trans (S := fun k => S0 w D A F m k ∨ k = N) (hcW.mono (fun k _ h => Or.inl (Or.inl h))) hc2').mono (fun k hk h => h.elim id (fun h => by omega))
  have hsb : ∀ k, isBytes w k → ¬ S0 w D A F m k := fun k ⟨cs, fr, hk⟩ => s0_cells hI hA hk (by decide)
  have hA2 := deed_chg hAW hc2 (by rintro (e | e); exact hBA e.symm; omega)
  have hd2 := dev_chg hdW hc2 (by rintro (e | e); exact hBD e.symm; omega)
  have hV2 : MapV w2 (Grown F w w2) m.V d.vers := by
    have hdev := hI.dev
    unfold DevAt at hdev
    obtain ⟨es1, clk1, hh1⟩ := core_mapV hI
    have hVlt : m.V < w.heap.size := (Array.getElem?_eq_some_iff.1 hh1).1
    have hS : Chg (fun k => k = D ∨ k = m.B) w w2 := (Chg.trans (S := fun k => (k = D ∨ k = m.B) ∨ k = N) (hcW.mono (fun k _ h => Or.inl (Or.inl h))) (hc2.mono (fun k _ h => h.elim (fun h => Or.inl (Or.inr h)) Or.inr))).mono (fun k hk h => h.elim id (fun h => by omega))
    have hcn : ∀ k c t fr, w.heap[k]? = some (.cells c t fr) → t ≠ 84 → ¬ (k = D ∨ k = m.B) := by
      rintro k c t fr hk ht (rfl | rfl)
      · rw [hdev] at hk; injection hk with hk; injection hk with _ hk; exact ht hk.symm
      · exact map_ne_cells hmB hk rfl
    refine hI.vers.chg hS (fun e => ?_) (fun k c fr hk => hcn k _ _ _ hk (by decide)) (fun k ⟨cs, fr, hk⟩ => hcn k _ _ _ hk (by decide)) grown_old
    rcases e with e | e
    · rw [e, hdev] at hh1; cases hh1
    · exact hI.bv e.symm
  refine ⟨rfl, _, ⟨m.lv, rfl, hd2, ⟨_, hB2, fun q' => ?_⟩, hV2, (hI.log.chg hc02 hsb).mono grown_old, note_map hI hA hrB q (by rw [hx]; rfl) (by rw [hx]; rfl) hN2 hc02, ⟨_, _, _, _, _, _, hA2⟩, hA2, hc02⟩, hc2'⟩
  unfold delD
  by_cases hq : q' = q
  · subst hq
    simp only [delV, updO, if_true]
    trivial
  · simp only [delV, updO, if_neg hq]
    exact (hrB q').imp fun v l h => (h.chg hc02 hsb).mono grown_old
end
end Go.Proofs.Ytcbglojjbgenlaa
namespace Go.Proofs.Ytcbglojjbgenlaa
open Go.RowKit Go.MapL Go.ChangeMaps Go.MapKept
set_option linter.unusedSimpArgs false
set_option linter.unusedVariables false

section
variable {w : World} {D A : Nat} {F : Nat → Prop} {d d1 : Dv} {kind n cnt : Int} {q tag : H32} {da ks : Value}

/-- the look behind an access that has noted one key -/
theorem chgC_key (hA : DeedAt w A kind q da ks n cnt tag) (T : World → Prop) {m : Mm} {W : World} {N : Nat} {f2 : Fd} (hI : Core w D F (fun k => k = m.B ∨ k = m.V) d m) (hN : w.heap.size ≤ N) (hlog : d1.log = d.log) (hM : Mid w D A F d1 m kind (noteK d q) 1 T N W f2) (hsome : (d.blobs q).isSome = true ∨ (d1.blobs q).isSome = true) (hM2 : ∃ lv, f2 = fdOf d1 { m with lv := lv, nb := .map (some N), nl := m.lv } ∧ ∀ k, vBlock lv = some k → k ≠ N) :
    ∃ b, (b = false ↔ d.blobs q = d1.blobs q) ∧ Calls Try.prog 44 #[.pointer (some ⟨D, 0, none⟩)] W fun e w' => e = .returned (.bool b) ∧ Chg (fun k => k = N) W w' ∧ (b = true → Below W.heap.size W w') := by
  obtain ⟨lv', hlv', hnv⟩ := hM2
  obtain ⟨lv, rfl, hd2, ⟨mB, hmB, hrB⟩, hV2, hl2, ⟨mo, hmo, hro⟩, hdd, hT2, hc02⟩ := hM
  have elv : lv = lv' := congrArg Fd.log hlv'
  subst elv
  have hBl : m.B < w.heap.size := s0_lt hI hA (Or.inr (Or.inr (Or.inl rfl)))
  have hBN : m.B ≠ N := by omega
  have hsb : ∀ k, isBytes w k → ¬ S0 w D A F m k := fun k ⟨cs, fr, hk⟩ => s0_cells hI hA hk (by decide)
  have hro' : ∀ q', q' ≠ q → mo q' = none := fun q' hq => by
    have := hro q'
    unfold noteK updO at this
    rw [if_neg hq] at this
    exact opt_none (w := w) (F := F) (x := none) (by cases e : mo q' with | none => trivial | some a => rw [e] at this; exact this.elim) rfl
  have hq := hro q
  unfold noteK updO at hq
  rw [if_pos rfl] at hq
  obtain ⟨v, hv, s, rfl, hs⟩ := hq.some
  have hs0 := hs
  obtain ⟨⟨sA, sc, rfl, -⟩, -⟩ := hs
  have hqB := hrB q
  obtain ⟨xA, xn, xc, hxo, hxs⟩ : ∃ xA xn xc, (mB q).getD (.slice none 0 0) = .slice xA xn xc ∧ DB W (Grown F w W) (.slice xA xn xc) ((d1.blobs q).getD []) := by
    cases e : mB q with
    | none =>
      rw [e] at hqB
      cases e2 : d1.blobs q with
      | none => exact ⟨none, 0, 0, rfl, DB.nil _ _⟩
      | some b => rw [e2] at hqB; exact hqB.elim
    | some v =>
      rw [e] at hqB
      cases e2 : d1.blobs q with
      | none => rw [e2] at hqB; exact hqB.elim
      | some b =>
        rw [e2] at hqB
        have hv2 : DB W (Grown F w W) v b := hqB
        obtain ⟨⟨xA, xc, e3, -⟩, -⟩ := id hv2
        subst e3
        exact ⟨xA, _, xc, rfl, hv2⟩
  have hiso : (mB q).isSome = (d1.blobs q).isSome := hqB.none
  cases h0 : d.blobs q with
  | none =>
    rw [h0] at hsome hv hs0
    simp only [Option.isSome_none, Option.getD_none, List.length_nil] at hsome hv hs0
    have h1 : (d1.blobs q).isSome = true := hsome.resolve_left (by simp)
    refine ⟨true, ?_, (changed_one D m.B N d1.n _ mB mo q W hd2 rfl rfl hmB hmo sA _ sc false hv hro' xA xn xc hxo (by rw [hiso, h1]; rfl)).mono ?_⟩
    · constructor
      · intro h; cases h
      · intro h; rw [← h] at h1; cases h1
    · rintro e w' ⟨rfl, hb⟩
      exact ⟨rfl, Below.chg _ hb, fun _ => hb⟩
  | some l0 =>
    rw [h0] at hv hs0
    simp only [Option.isSome_some, Option.getD_some] at hv hs0
    cases h1 : d1.blobs q with
    | none =>
      refine ⟨true, by simp, (changed_one D m.B N d1.n _ mB mo q W hd2 rfl rfl hmB hmo sA _ sc true hv hro' xA xn xc hxo (by rw [hiso, h1]; rfl)).mono ?_⟩
      rintro e w' ⟨rfl, hb⟩
      exact ⟨rfl, Below.chg _ hb, fun _ => hb⟩
    | some l1 =>
      rw [h1] at hxs
      simp only [Option.getD_some] at hxs
      have hl0 := (hI.log.chg hc02 hsb).1
      rw [hlog] at hl2
      refine ⟨!(l1 == l0), ?_, (changed_again D m.B N d1.n _ mB mo q W hd2 rfl rfl hmB hmo hBN sA _ sc true hv hro' xA xn xc hxo (by rw [hiso, h1]; rfl) l1 l0 hxs.1 hs0.1 d.log hl0 hl2.1 (fun k hk => ?_) hnv).mono ?_⟩
      · rw [Bool.not_eq_false', beq_iff_eq]
        constructor
        · intro h; rw [h]
        · intro h; injection h with h; exact h.symm
      · have := (Array.getElem?_eq_some_iff.1 (hI.log.2 k hk).2.choose_spec.choose_spec).1
        omega
      · rintro e w' ⟨rfl, hb, hb2⟩
        exact ⟨rfl, hb, fun h => hb2 (by simpa using h)⟩

theorem few_upd {x : List Bs} (h : Awake w D F d) (hx : x.length ≤ 1099511627776) : ∀ q', (updL d.vers q x q').length ≤ 1099511627776 := fun q' => by
  unfold updL
  split
  · exact hx
  · exact h.few.2.2 q'

theorem acc_put2 {dA : Option Addr} {dc : Nat} {l : Bs} (h : Awake w D F d) (hA : DeedAt w A 2 q (.slice dA l.length dc) ks n cnt tag) (hdb : DB w F (.slice dA l.length dc) l) (hroom : (d.blobs q).isSome = true ∨ (d.n : Int) < d.slots)
    (hfew : d.acc.length < 1099511627776 ∧ d.past.length < 1099511627776 ∧ ∀ q, (d.vers q).length < 1099511627776) :
    Calls Try.prog 35 #[.pointer (some ⟨D, 0, none⟩), .pointer (some ⟨A, 0, none⟩)] w fun e w' => e = .returned (.int .i64 0) ∧
      Awake w' D (Grown F w w') { putD d q l with acc := d.acc ++ [(2, 0, true)], past := pastK d q (some l) } ∧ DeedAt w' A 2 q (.slice dA l.length dc) ks n cnt tag ∧ Chg (fun k => (F k ∨ k = A) ∧ ¬ isBytes w k) w w' := by
  have hv : ∀ q', ((putD d q l).vers q').length ≤ 1099511627776 := few_upd h (by have := hfew.2.2 q; simp; omega)
  have hnew : (putD d q l).blobs q = some l := by unfold putD updO; simp
  have hM2 : ∀ {m : Mm} {N : Nat} {W : World} {f2 : Fd}, Core w D F (fun k => k = m.B ∨ k = m.V) d m → w.heap.size ≤ N → Mid w D A F (putD d q l) m 2 (noteK d q) 1 (fun w' => DeedAt w' A 2 q (.slice dA l.length dc) ks n cnt tag) N W f2 → ∃ lv, f2 = fdOf (putD d q l) { m with lv := lv, nb := .map (some N), nl := m.lv } ∧ ∀ k, vBlock lv = some k → k ≠ N := by
    intro m N W f2 hI hN hM
    obtain ⟨lv, rfl, hd2, hB2, hV2, hl2, ⟨mo, hmo, hro⟩, hdd, hT2, hc02⟩ := hM
    refine ⟨lv, rfl, fun k hk => ?_⟩
    obtain ⟨_, cs, fr, hh⟩ := hl2.2 k hk
    exact fun e => map_ne_cells hmo hh e.symm
  by_cases hl : d.blobs q = some l
  · unfold pastK
    rw [if_pos hl]
    refine acc_gen_no h hA 0 (putD d q l) _ _ _ rfl (doesC_put h hA hdb hroom) (fun m W N f2 hI hN hM => ?_) (fun w2 w' h hc => tf_deed h hc) hfew.1 h.low hv
    obtain ⟨b, hb, hc⟩ := chgC_key (d1 := putD d q l) hA _ hI hN rfl hM (Or.inr (by rw [hnew]; rfl)) (hM2 hI hN hM)
    refine hc.mono ?_
    rintro e w' ⟨rfl, h1, _⟩
    exact ⟨by rw [hb.2 (by rw [hnew, hl])], h1⟩
  · unfold pastK
    rw [if_neg hl]
    refine acc_gen_ch h hA 0 (putD d q l) _ _ _ rfl (doesC_put h hA hdb hroom) (fun m W N f2 hI hN hM => ?_) (fun w2 w' h hc => tf_deed h hc) (by decide) (by decide) ⟨hfew.1, hfew.2.1⟩ h.low hv
    obtain ⟨b, hb, hc⟩ := chgC_key (d1 := putD d q l) hA _ hI hN rfl hM (Or.inr (by rw [hnew]; rfl)) (hM2 hI hN hM)
    have hbt : b = true := by
      cases b with
      | true => rfl
      | false => exact absurd ((hb.1 rfl).trans hnew) hl
    subst hbt
    refine hc.mono ?_
    rintro e w' ⟨rfl, _, h2⟩
    exact ⟨rfl, h2 rfl⟩

theorem acc_delete2 {l : Bs} (h : Awake w D F d) (hA : DeedAt w A 3 q da ks n cnt tag) (hl : d.blobs q = some l) (hfew : d.acc.length < 1099511627776 ∧ d.past.length < 1099511627776) :
    Calls Try.prog 35 #[.pointer (some ⟨D, 0, none⟩), .pointer (some ⟨A, 0, none⟩)] w fun e w' => e = .returned (.int .i64 0) ∧
      Awake w' D (Grown F w w') { delD d q with acc := d.acc ++ [(3, 0, true)], past := d.past ++ [⟨noteK d q, 1, d.log⟩] } ∧ DeedAt w' A 3 q da ks n cnt tag ∧ Chg (fun k => (F k ∨ k = A) ∧ ¬ isBytes w k) w w' := by
  have hnew : (delD d q).blobs q = none := by unfold delD updO; simp
  refine acc_gen_ch h hA 0 (delD d q) _ _ _ rfl (doesC_delete hA hl) (fun m W N f2 hI hN hM => ?_) (fun w2 w' h hc => tf_deed h hc) (by decide) (by decide) hfew h.low h.few.2.2
  have hM2 : ∃ lv, f2 = fdOf (delD d q) { m with lv := lv, nb := .map (some N), nl := m.lv } ∧ ∀ k, vBlock lv = some k → k ≠ N := by
    obtain ⟨lv, rfl, hd2, hB2, hV2, hl2, ⟨mo, hmo, hro⟩, hdd, hT2, hc02⟩ := hM
    refine ⟨lv, rfl, fun k hk => ?_⟩
    obtain ⟨_, cs, fr, hh⟩ := hl2.2 k hk
    exact fun e => map_ne_cells hmo hh e.symm
  obtain ⟨b, hb, hc⟩ := chgC_key (d1 := delD d q) hA _ hI hN rfl hM (Or.inl (by rw [hl]; rfl)) hM2
  have hbt : b = true := by
    cases b with
    | true => rfl
    | false =>
      have := hb.1 rfl
      rw [hl, hnew] at this
      cases this
  subst hbt
  refine hc.mono ?_
  rintro e w' ⟨rfl, _, h2⟩
  exact ⟨rfl, h2 rfl⟩
end
end Go.Proofs.Ytcbglojjbgenlaa
