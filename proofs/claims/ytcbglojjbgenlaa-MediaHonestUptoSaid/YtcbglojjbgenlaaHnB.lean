/- One access by no choice that changes neither blobs nor log, though a note may be struck; the register's too. One access by no choice that changes neither blobs nor log, though a note may be struck; the register's too. An honest access of a device by no choice: what stands behind it. An honest access of a device by no choice. -/
import Derived.Test.YtcbglojjbgenlaaHnA
import Derived.Test.YtcbglojjbgenlaaMdD
namespace Go.Proofs.Ytcbglojjbgenlaa
open Go.RowKit Go.MapL Go.ChangeMaps Go.MapKept
set_option linter.unusedSimpArgs false
set_option linter.unusedVariables false
attribute [local go_sem] size_gr cell_gr frozen_gr setCell_gr gr_drew gr_drewN lt_k lt_kc le_k le_kc sub_kc nil29 nil28 nil49 mkmap size_setBlock cell_setB st_fun
attribute [local go_sem ↓] Go.wp_at_zero Go.wp_at_succ

theorem accIn_chg {D A : Nat} {kind : Int} {na np : Nat} {ca cp : List Value} {W W' : World} {f : Fd} {N : Nat} {lA : Option Addr} {ln lc : Nat} (h : AccIn D A kind na np ca cp W f N lA ln lc) {mm : H32 → Option Value} {nn : Nat} (hN : MapIs HC W N mm nn) (hc : Chg (fun k => k = N) W W') : AccIn D A kind na np ca cp W' f N lA ln lc := by
  have hrow : ∀ {e : TypeId} {size : Nat} {v : Value} {n : Nat} {xs : List Value}, W.ownsRow 0 e size v n xs → W'.ownsRow 0 e size v n xs := fun hv => own_chg hv hc (fun k hk e => by
    obtain ⟨_, _, hh⟩ := own_heap hv hk
    exact map_ne_cells hN hh e.symm)
  obtain ⟨aA, ac, ea, ha⟩ := h.racc
  obtain ⟨pA, pc, ep, hp⟩ := h.rpast
  obtain ⟨q, da, ks, n, cnt, tag, hd⟩ := h.deed
  exact ⟨dev_chg h.dev hc (fun e => map_ne_cells hN h.dev e.symm), h.nb, h.nl, ⟨aA, ac, ea, hrow ha⟩, ⟨pA, pc, ep, hrow hp⟩, ⟨q, da, ks, n, cnt, tag, deed_chg hd hc (fun e => map_ne_cells hN hd e.symm)⟩⟩

set_option maxHeartbeats 1000000 in
set_option maxRecDepth 8000 in
theorem access_n (D A : Nat) (f : Fd) (kind r : Int) (na np : Nat) (ca cp : List Value) (w : World) (hD : DevAt w D f) (cA : Option Addr) (cc : Nat) (hcho : f.cho = .slice cA 0 cc) (lA : Option Addr) (ln lc : Nat) (hlog : f.log = .slice lA ln lc) (hk : w.cell? ⟨A, 0, none⟩ = some (.int .i64 kind)) (hDA : D ≠ A)
    (Q : World → Fd → Prop)
    (hdoes : ∀ W N, Chg (fun k => k = D) w W → w.heap.size ≤ N → MapIs HC W N (fun _ => none) 0 → DevAt W D { f with nb := .map (some N), nl := .slice lA ln lc } →
      Calls Try.prog 62 #[.pointer (some ⟨D, 0, none⟩), .pointer (some ⟨A, 0, none⟩)] W fun e w' => ∃ f2, e = .returned (.int .i64 r) ∧ AccIn D A kind na np ca cp w' f2 N lA ln lc ∧ Q w' f2 ∧ (∃ mm nn, MapIs HC w' N mm nn) ∧ ∀ k, w.heap.size ≤ k → k ≠ N → k < W.heap.size → w'.heap[k]? = W.heap[k]?)
    (hchg : ∀ W f2 N, AccIn D A kind na np ca cp W f2 N lA ln lc → Q W f2 → Calls Try.prog 44 #[.pointer (some ⟨D, 0, none⟩)] W fun e w' => e = .returned (.bool false) ∧ Chg (fun k => k = N) W w')
    (hna : na ≤ 1099511627776) (hnp : np ≤ 1099511627776) (h9 : (kind == 9) = false) (h10 : (kind == 10) = false) :
    Calls Try.prog 35 #[.pointer (some ⟨D, 0, none⟩), .pointer (some ⟨A, 0, none⟩)] w fun e w' => e = .returned (.int .i64 r) ∧ AccOut D A kind r na np ca cp false (fun W f => ∃ W0 N, AccIn D A kind na np ca cp W0 f N lA ln lc ∧ Q W0 f ∧ Chg (fun k => k = N) W0 W) w' := by
  obtain ⟨hc0, hc1, hc2, hc3, hc4, -, hc38, -, hc40, hc41, hc42, hc43⟩ := dev_c hD
  have hDlt : D < w.heap.size := World.block_lt_of_cell? w _ hc0
  have hAlt : A < w.heap.size := World.block_lt_of_cell? w _ hk
  have hf42 := dev_fr hD 42
  have hf43 := dev_fr hD 43
  rw [hcho] at hc38
  rw [hlog] at hc3
  have HD := Lib.hid hD
  have hAD : A ≠ D := fun e => hDA e.symm
  have hA1 : A < w.heap.size + 1 := by omega
  have hA2 : A < w.heap.size + 1 + 1 := by omega
  have hD1 : D < w.heap.size + 1 := by omega
  have hD2 : D < w.heap.size + 1 + 1 := by omega
  have HDO := Lib.hid hdoes
  have HCH := Lib.hid hchg
  have HPRE := Lib.hid (fun (W : World) (hb : Below (((((w.setCell ⟨D, 42, none⟩ (.map (some (w.heap.size + 1)))).setCell ⟨D, 43, none⟩ (.slice lA ln lc)).alloc (.cells #[.int .i64 0, .int .i64 0, .int .i64 0] 27)).alloc (.map #[] 0))).heap.size ((((w.setCell ⟨D, 42, none⟩ (.map (some (w.heap.size + 1)))).setCell ⟨D, 43, none⟩ (.slice lA ln lc)).alloc (.cells #[.int .i64 0, .int .i64 0, .int .i64 0] 27)).alloc (.map #[] 0)) W) =>
    (show Chg (fun k => k = D) w W ∧ MapIs HC W (w.heap.size + 1) (fun _ => none) 0 ∧ DevAt W D { f with nb := .map (some (w.heap.size + 1)), nl := .slice lA ln lc } ∧ W.heap[w.heap.size]? = some (.cells #[.int .i64 0, .int .i64 0, .int .i64 0] 27 (0, 0)) ∧ w.heap.size < W.heap.size from by
      have c1 : Chg (fun k => k = D) w ((w.setCell ⟨D, 42, none⟩ (.map (some (w.heap.size + 1)))).setCell ⟨D, 43, none⟩ (.slice lA ln lc)) := chg_set (S := fun k => k = D) (chg_set (S := fun k => k = D) (Chg.refl _ _) rfl _) rfl _
      have d1 := dev_set43 (dev_set42 hD (.map (some (w.heap.size + 1)))) (.slice lA ln lc)
      have m1 := mapIs_made HC (((w.setCell ⟨D, 42, none⟩ (.map (some (w.heap.size + 1)))).setCell ⟨D, 43, none⟩ (.slice lA ln lc)).alloc (.cells #[.int .i64 0, .int .i64 0, .int .i64 0] 27))
      have e1 : (((w.setCell ⟨D, 42, none⟩ (.map (some (w.heap.size + 1)))).setCell ⟨D, 43, none⟩ (.slice lA ln lc)).alloc (.cells #[.int .i64 0, .int .i64 0, .int .i64 0] 27)).heap.size = w.heap.size + 1 := by simp [World.size_setCell]
      rw [e1] at m1
      have e0 : ((w.setCell ⟨D, 42, none⟩ (.map (some (w.heap.size + 1)))).setCell ⟨D, 43, none⟩ (.slice lA ln lc)).heap.size = w.heap.size := by simp [World.size_setCell]
      have l1 := heap_alloc_last ((w.setCell ⟨D, 42, none⟩ (.map (some (w.heap.size + 1)))).setCell ⟨D, 43, none⟩ (.slice lA ln lc)) (.cells #[.int .i64 0, .int .i64 0, .int .i64 0] 27)
      rw [e0] at l1
      refine ⟨(chg_al (chg_al c1)).trans (Below.chg _ hb), map_bel m1 hb, dev_bel (dev_bel d1 (bg_al (bg_al (Below.refl _ _)))) hb, ?_, ?_⟩
      · rw [hb.block _ (by simp [World.size_setCell]; omega), Below.heap_alloc _ _ _ (by simp [World.size_setCell])]
        exact l1
      · have := hb.size
        simp [World.size_setCell] at this
        omega))
  have HN1 := Lib.hid hna
  have HN2 := Lib.hid hnp
  have hone : (Value.func (.func 50) #[] #[]).oneCell' = true := rfl
  clear hna hnp
  clear hD hcho hlog hdoes hchg
  go_enter Try.func35, Try.ntmps35
  go_wp2_with (first
   | (go_at_call 43; refine (manner_zero _).mono ?_; rintro en w1 ⟨rfl, hb1⟩; obtain ⟨D1, rfl⟩ := gr_of_below hb1; clear hb1)
   | (go_at_call 50; refine (honest_any _ _ _ _ (fun v w' => v = .int .i64 r ∧ (∃ f2, AccIn D A kind na np ca cp w' f2 (w.heap.size + 1) lA ln lc ∧ Q w' f2 ∧ ∃ mm nn, MapIs HC w' (w.heap.size + 1) mm nn) ∧ w'.heap[w.heap.size]? = some (.cells #[.int .i64 0, .int .i64 0, .int .i64 0] 27 (0, 0))) ((HDO.out _ (w.heap.size + 1) (HPRE.out _ (by (repeat (first | exact Below.refl _ _ | refine bg_al ?_ | refine bg_gr ?_ | refine bg_drn ?_ | refine bg_dr ?_ | assumption)))).1 (by omega) (HPRE.out _ (by (repeat (first | exact Below.refl _ _ | refine bg_al ?_ | refine bg_gr ?_ | refine bg_drn ?_ | refine bg_dr ?_ | assumption)))).2.1 (HPRE.out _ (by (repeat (first | exact Below.refl _ _ | refine bg_al ?_ | refine bg_gr ?_ | refine bg_drn ?_ | refine bg_dr ?_ | assumption)))).2.2.1).mono (fun e w' h => by obtain ⟨f2, h1, h2, h3, h5, h4⟩ := h; exact ⟨r, h1, rfl, ⟨f2, h2, h3, h5⟩, (h4 _ (Nat.le_refl _) (by omega) (HPRE.out _ (by (repeat (first | exact Below.refl _ _ | refine bg_al ?_ | refine bg_gr ?_ | refine bg_drn ?_ | refine bg_dr ?_ | assumption)))).2.2.2.2).trans (HPRE.out _ (by (repeat (first | exact Below.refl _ _ | refine bg_al ?_ | refine bg_gr ?_ | refine bg_drn ?_ | refine bg_dr ?_ | assumption)))).2.2.2.1⟩))).mono ?_; rintro en w2 ⟨r', rfl, hr', ⟨f2, hacc, hQ, mm2, nn2, hmm⟩, hch2⟩; injection hr' with _ hr'; subst hr'; have HACC := Lib.hid hacc; have HQ := Lib.hid hQ; have HC2 := Lib.hid hch2; have HMM := Lib.hid hmm; clear hacc hQ hch2 hmm)
   | (go_at_call 44; refine (HCH.out _ _ _ HACC.out HQ.out).mono ?_; rintro en w3 ⟨rfl, hb3⟩; have HB3 := Lib.hid hb3; clear hb3))
  have HACC3 := Lib.hid (accIn_chg HACC.out HMM.out HB3.out)
  obtain ⟨aA, ac, ha, hra⟩ := HACC3.out.racc
  have hd3 := HACC3.out.dev
  obtain ⟨-, -, -, -, -, -, -, j39, -, -, -, -⟩ := dev_c hd3
  rw [ha] at j39 hra
  have jf39 := dev_fr hd3 39
  have HRA := Lib.hid hra
  have j0 := HACC3.out.kind
  have hc3' := (HB3.out.block _ (Array.getElem?_eq_some_iff.1 HC2.out).1 (by omega)).trans HC2.out
  have jc : w3.cell? ⟨w.heap.size, 0, none⟩ = some (.int .i64 0) := by rw [cell_of_row _ _ _ _ _ _ hc3']; rfl
  have x0 : D < w3.heap.size := World.block_lt_of_cell? _ _ j39
  have x1 : A < w3.heap.size := World.block_lt_of_cell? _ _ j0
  have x2 : w.heap.size < w3.heap.size := World.block_lt_of_cell? _ _ jc
  have HD3 := Lib.hid hd3
  have HHA := Lib.hid ha
  obtain ⟨pA, pc, hpa, hrp⟩ := HACC3.out.rpast
  have HHP := Lib.hid hpa
  have HRP := Lib.hid hrp
  clear ha hra hd3 hc3' hpa hrp
  go_region_law (first | (refine step_ap accessesT (by rfl) (by rfl) (by rfl) (own_below HRA.out (show Below w3.heap.size w3 _ by (repeat (first | exact Below.refl _ _ | refine bg_al ?_ | refine bg_gr ?_ | refine bg_drn ?_ | refine bg_dr ?_ | assumption)))) (by rfl) (Src.block (m := 1) (heap_alloc_last _ _) (by rfl)) (by simp [Value.oneCell']) (by have := HN1.out; simp only [maxLen]; omega) (by have := HN1.out; omega) (Nat.zero_le _) ?_; intro v9 w9 hap; have HAP := Lib.hid hap; have hd9 := ap_dev hap (own_below HRA.out (show Below w3.heap.size w3 _ by (repeat (first | exact Below.refl _ _ | refine bg_al ?_ | refine bg_gr ?_ | refine bg_drn ?_ | refine bg_dr ?_ | assumption)))) (by decide) (dev_bel HD3.out (show Below w3.heap.size w3 _ by (repeat (first | exact Below.refl _ _ | refine bg_al ?_ | refine bg_gr ?_ | refine bg_drn ?_ | refine bg_dr ?_ | assumption)))); have HD9 := Lib.hid hd9; obtain ⟨-, -, -, -, -, -, -, i39, -, -, -, -⟩ := dev_c hd9; have if39 := dev_fr hd9 39; obtain ⟨g9, c9, rfl, hc9, hm9, hb9, hlt9⟩ := own_form hap.1 (by omega); clear hap hd9))
  all_goals go_wp2_with fail
  all_goals go_ret
  all_goals exact ⟨rfl, acc_fin (Q := fun W f => ∃ W0 N, AccIn D A kind na np ca cp W0 f N lA ln lc ∧ Q W0 f ∧ Chg (fun k => k = N) W0 W) (pv := f2.past) (np' := np) (cp' := cp) ⟨w2, _, HACC.out, HQ.out, HB3.out⟩ HD3.out HD3.out HHA.out HRA.out HRP.out rfl rfl (Chg.refl _ _) HAP.out (Or.inl rfl)⟩

end Go.Proofs.Ytcbglojjbgenlaa
namespace Go.Proofs.Ytcbglojjbgenlaa
open Go.RowKit Go.MapL Go.ChangeMaps Go.MapKept
set_option linter.unusedSimpArgs false
set_option linter.unusedVariables false
attribute [local go_sem] size_gr cell_gr frozen_gr setCell_gr gr_drew gr_drewN lt_k lt_kc le_k le_kc sub_kc nil29 nil28 nil49 mkmap size_setBlock cell_setB st_fun
attribute [local go_sem ↓] Go.wp_at_zero Go.wp_at_succ

set_option maxHeartbeats 1000000 in
set_option maxRecDepth 8000 in
theorem access_n9 (D A : Nat) (f : Fd) (kind r : Int) (na np : Nat) (ca cp : List Value) (w : World) (hD : DevAt w D f) (cA : Option Addr) (cc : Nat) (hcho : f.cho = .slice cA 0 cc) (lA : Option Addr) (ln lc : Nat) (hlog : f.log = .slice lA ln lc) (hk : w.cell? ⟨A, 0, none⟩ = some (.int .i64 kind)) (hDA : D ≠ A)
    (Q : World → Fd → Prop)
    (hdoes : ∀ W N, Chg (fun k => k = D) w W → w.heap.size ≤ N → MapIs HC W N (fun _ => none) 0 → DevAt W D { f with nb := .map (some N), nl := .slice lA ln lc } →
      Calls Try.prog 62 #[.pointer (some ⟨D, 0, none⟩), .pointer (some ⟨A, 0, none⟩)] W fun e w' => ∃ f2, e = .returned (.int .i64 r) ∧ AccIn D A kind na np ca cp w' f2 N lA ln lc ∧ Q w' f2 ∧ (∃ mm nn, MapIs HC w' N mm nn) ∧ ∀ k, w.heap.size ≤ k → k ≠ N → k < W.heap.size → w'.heap[k]? = W.heap[k]?)
    (hchg : ∀ W f2 N, AccIn D A kind na np ca cp W f2 N lA ln lc → Q W f2 → Calls Try.prog 44 #[.pointer (some ⟨D, 0, none⟩)] W fun e w' => e = .returned (.bool false) ∧ Chg (fun k => k = N) W w')
    (hna : na ≤ 1099511627776) (hnp : np ≤ 1099511627776) (h9 : (kind == 9) = true) :
    Calls Try.prog 35 #[.pointer (some ⟨D, 0, none⟩), .pointer (some ⟨A, 0, none⟩)] w fun e w' => e = .returned (.int .i64 r) ∧ AccOut D A kind r na np ca cp false (fun W f => ∃ W0 N, AccIn D A kind na np ca cp W0 f N lA ln lc ∧ Q W0 f ∧ Chg (fun k => k = N) W0 W) w' := by
  obtain ⟨hc0, hc1, hc2, hc3, hc4, -, hc38, -, hc40, hc41, hc42, hc43⟩ := dev_c hD
  have hDlt : D < w.heap.size := World.block_lt_of_cell? w _ hc0
  have hAlt : A < w.heap.size := World.block_lt_of_cell? w _ hk
  have hf42 := dev_fr hD 42
  have hf43 := dev_fr hD 43
  rw [hcho] at hc38
  rw [hlog] at hc3
  have HD := Lib.hid hD
  have hAD : A ≠ D := fun e => hDA e.symm
  have hA1 : A < w.heap.size + 1 := by omega
  have hA2 : A < w.heap.size + 1 + 1 := by omega
  have hD1 : D < w.heap.size + 1 := by omega
  have hD2 : D < w.heap.size + 1 + 1 := by omega
  have HDO := Lib.hid hdoes
  have HCH := Lib.hid hchg
  have HPRE := Lib.hid (fun (W : World) (hb : Below (((((w.setCell ⟨D, 42, none⟩ (.map (some (w.heap.size + 1)))).setCell ⟨D, 43, none⟩ (.slice lA ln lc)).alloc (.cells #[.int .i64 0, .int .i64 0, .int .i64 0] 27)).alloc (.map #[] 0))).heap.size ((((w.setCell ⟨D, 42, none⟩ (.map (some (w.heap.size + 1)))).setCell ⟨D, 43, none⟩ (.slice lA ln lc)).alloc (.cells #[.int .i64 0, .int .i64 0, .int .i64 0] 27)).alloc (.map #[] 0)) W) =>
    (show Chg (fun k => k = D) w W ∧ MapIs HC W (w.heap.size + 1) (fun _ => none) 0 ∧ DevAt W D { f with nb := .map (some (w.heap.size + 1)), nl := .slice lA ln lc } ∧ W.heap[w.heap.size]? = some (.cells #[.int .i64 0, .int .i64 0, .int .i64 0] 27 (0, 0)) ∧ w.heap.size < W.heap.size from by
      have c1 : Chg (fun k => k = D) w ((w.setCell ⟨D, 42, none⟩ (.map (some (w.heap.size + 1)))).setCell ⟨D, 43, none⟩ (.slice lA ln lc)) := chg_set (S := fun k => k = D) (chg_set (S := fun k => k = D) (Chg.refl _ _) rfl _) rfl _
      have d1 := dev_set43 (dev_set42 hD (.map (some (w.heap.size + 1)))) (.slice lA ln lc)
      have m1 := mapIs_made HC (((w.setCell ⟨D, 42, none⟩ (.map (some (w.heap.size + 1)))).setCell ⟨D, 43, none⟩ (.slice lA ln lc)).alloc (.cells #[.int .i64 0, .int .i64 0, .int .i64 0] 27))
      have e1 : (((w.setCell ⟨D, 42, none⟩ (.map (some (w.heap.size + 1)))).setCell ⟨D, 43, none⟩ (.slice lA ln lc)).alloc (.cells #[.int .i64 0, .int .i64 0, .int .i64 0] 27)).heap.size = w.heap.size + 1 := by simp [World.size_setCell]
      rw [e1] at m1
      have e0 : ((w.setCell ⟨D, 42, none⟩ (.map (some (w.heap.size + 1)))).setCell ⟨D, 43, none⟩ (.slice lA ln lc)).heap.size = w.heap.size := by simp [World.size_setCell]
      have l1 := heap_alloc_last ((w.setCell ⟨D, 42, none⟩ (.map (some (w.heap.size + 1)))).setCell ⟨D, 43, none⟩ (.slice lA ln lc)) (.cells #[.int .i64 0, .int .i64 0, .int .i64 0] 27)
      rw [e0] at l1
      refine ⟨(chg_al (chg_al c1)).trans (Below.chg _ hb), map_bel m1 hb, dev_bel (dev_bel d1 (bg_al (bg_al (Below.refl _ _)))) hb, ?_, ?_⟩
      · rw [hb.block _ (by simp [World.size_setCell]; omega), Below.heap_alloc _ _ _ (by simp [World.size_setCell])]
        exact l1
      · have := hb.size
        simp [World.size_setCell] at this
        omega))
  have HN1 := Lib.hid hna
  have HN2 := Lib.hid hnp
  have hone : (Value.func (.func 50) #[] #[]).oneCell' = true := rfl
  clear hna hnp
  clear hD hcho hlog hdoes hchg
  go_enter Try.func35, Try.ntmps35
  go_wp2_with (first
   | (go_at_call 43; refine (manner_zero _).mono ?_; rintro en w1 ⟨rfl, hb1⟩; obtain ⟨D1, rfl⟩ := gr_of_below hb1; clear hb1)
   | (go_at_call 50; refine (honest_any _ _ _ _ (fun v w' => v = .int .i64 r ∧ (∃ f2, AccIn D A kind na np ca cp w' f2 (w.heap.size + 1) lA ln lc ∧ Q w' f2 ∧ ∃ mm nn, MapIs HC w' (w.heap.size + 1) mm nn) ∧ w'.heap[w.heap.size]? = some (.cells #[.int .i64 0, .int .i64 0, .int .i64 0] 27 (0, 0))) ((HDO.out _ (w.heap.size + 1) (HPRE.out _ (by (repeat (first | exact Below.refl _ _ | refine bg_al ?_ | refine bg_gr ?_ | refine bg_drn ?_ | refine bg_dr ?_ | assumption)))).1 (by omega) (HPRE.out _ (by (repeat (first | exact Below.refl _ _ | refine bg_al ?_ | refine bg_gr ?_ | refine bg_drn ?_ | refine bg_dr ?_ | assumption)))).2.1 (HPRE.out _ (by (repeat (first | exact Below.refl _ _ | refine bg_al ?_ | refine bg_gr ?_ | refine bg_drn ?_ | refine bg_dr ?_ | assumption)))).2.2.1).mono (fun e w' h => by obtain ⟨f2, h1, h2, h3, h5, h4⟩ := h; exact ⟨r, h1, rfl, ⟨f2, h2, h3, h5⟩, (h4 _ (Nat.le_refl _) (by omega) (HPRE.out _ (by (repeat (first | exact Below.refl _ _ | refine bg_al ?_ | refine bg_gr ?_ | refine bg_drn ?_ | refine bg_dr ?_ | assumption)))).2.2.2.2).trans (HPRE.out _ (by (repeat (first | exact Below.refl _ _ | refine bg_al ?_ | refine bg_gr ?_ | refine bg_drn ?_ | refine bg_dr ?_ | assumption)))).2.2.2.1⟩))).mono ?_; rintro en w2 ⟨r', rfl, hr', ⟨f2, hacc, hQ, mm2, nn2, hmm⟩, hch2⟩; injection hr' with _ hr'; subst hr'; have HACC := Lib.hid hacc; have HQ := Lib.hid hQ; have HC2 := Lib.hid hch2; have HMM := Lib.hid hmm; clear hacc hQ hch2 hmm)
   | (go_at_call 44; refine (HCH.out _ _ _ HACC.out HQ.out).mono ?_; rintro en w3 ⟨rfl, hb3⟩; have HB3 := Lib.hid hb3; clear hb3))
  have HACC3 := Lib.hid (accIn_chg HACC.out HMM.out HB3.out)
  obtain ⟨aA, ac, ha, hra⟩ := HACC3.out.racc
  have hd3 := HACC3.out.dev
  obtain ⟨-, -, -, -, -, -, -, j39, -, -, -, -⟩ := dev_c hd3
  rw [ha] at j39 hra
  have jf39 := dev_fr hd3 39
  have HRA := Lib.hid hra
  have j0 := HACC3.out.kind
  have hc3' := (HB3.out.block _ (Array.getElem?_eq_some_iff.1 HC2.out).1 (by omega)).trans HC2.out
  have jc : w3.cell? ⟨w.heap.size, 0, none⟩ = some (.int .i64 0) := by rw [cell_of_row _ _ _ _ _ _ hc3']; rfl
  have x0 : D < w3.heap.size := World.block_lt_of_cell? _ _ j39
  have x1 : A < w3.heap.size := World.block_lt_of_cell? _ _ j0
  have x2 : w.heap.size < w3.heap.size := World.block_lt_of_cell? _ _ jc
  have HD3 := Lib.hid hd3
  have HHA := Lib.hid ha
  obtain ⟨pA, pc, hpa, hrp⟩ := HACC3.out.rpast
  have HHP := Lib.hid hpa
  have HRP := Lib.hid hrp
  clear ha hra hd3 hc3' hpa hrp
  go_region_law (first | (refine step_ap accessesT (by rfl) (by rfl) (by rfl) (own_below HRA.out (show Below w3.heap.size w3 _ by (repeat (first | exact Below.refl _ _ | refine bg_al ?_ | refine bg_gr ?_ | refine bg_drn ?_ | refine bg_dr ?_ | assumption)))) (by rfl) (Src.block (m := 1) (heap_alloc_last _ _) (by rfl)) (by simp [Value.oneCell']) (by have := HN1.out; simp only [maxLen]; omega) (by have := HN1.out; omega) (Nat.zero_le _) ?_; intro v9 w9 hap; have HAP := Lib.hid hap; have hd9 := ap_dev hap (own_below HRA.out (show Below w3.heap.size w3 _ by (repeat (first | exact Below.refl _ _ | refine bg_al ?_ | refine bg_gr ?_ | refine bg_drn ?_ | refine bg_dr ?_ | assumption)))) (by decide) (dev_bel HD3.out (show Below w3.heap.size w3 _ by (repeat (first | exact Below.refl _ _ | refine bg_al ?_ | refine bg_gr ?_ | refine bg_drn ?_ | refine bg_dr ?_ | assumption)))); have HD9 := Lib.hid hd9; obtain ⟨-, -, -, -, -, -, -, i39, -, -, -, -⟩ := dev_c hd9; have if39 := dev_fr hd9 39; obtain ⟨g9, c9, rfl, hc9, hm9, hb9, hlt9⟩ := own_form hap.1 (by omega); clear hap hd9))
  all_goals go_wp2_with fail
  all_goals go_ret
  all_goals exact ⟨rfl, acc_fin (Q := fun W f => ∃ W0 N, AccIn D A kind na np ca cp W0 f N lA ln lc ∧ Q W0 f ∧ Chg (fun k => k = N) W0 W) (pv := f2.past) (np' := np) (cp' := cp) ⟨w2, _, HACC.out, HQ.out, HB3.out⟩ HD3.out HD3.out HHA.out HRA.out HRP.out rfl rfl (Chg.refl _ _) HAP.out (Or.inl rfl)⟩

set_option maxHeartbeats 1000000 in
set_option maxRecDepth 8000 in
theorem access_n10 (D A : Nat) (f : Fd) (kind r : Int) (na np : Nat) (ca cp : List Value) (w : World) (hD : DevAt w D f) (cA : Option Addr) (cc : Nat) (hcho : f.cho = .slice cA 0 cc) (lA : Option Addr) (ln lc : Nat) (hlog : f.log = .slice lA ln lc) (hk : w.cell? ⟨A, 0, none⟩ = some (.int .i64 kind)) (hDA : D ≠ A)
    (Q : World → Fd → Prop)
    (hdoes : ∀ W N, Chg (fun k => k = D) w W → w.heap.size ≤ N → MapIs HC W N (fun _ => none) 0 → DevAt W D { f with nb := .map (some N), nl := .slice lA ln lc } →
      Calls Try.prog 62 #[.pointer (some ⟨D, 0, none⟩), .pointer (some ⟨A, 0, none⟩)] W fun e w' => ∃ f2, e = .returned (.int .i64 r) ∧ AccIn D A kind na np ca cp w' f2 N lA ln lc ∧ Q w' f2 ∧ (∃ mm nn, MapIs HC w' N mm nn) ∧ ∀ k, w.heap.size ≤ k → k ≠ N → k < W.heap.size → w'.heap[k]? = W.heap[k]?)
    (hchg : ∀ W f2 N, AccIn D A kind na np ca cp W f2 N lA ln lc → Q W f2 → Calls Try.prog 44 #[.pointer (some ⟨D, 0, none⟩)] W fun e w' => e = .returned (.bool false) ∧ Chg (fun k => k = N) W w')
    (hna : na ≤ 1099511627776) (hnp : np ≤ 1099511627776) (h9 : (kind == 9) = false) (h10 : (kind == 10) = true) :
    Calls Try.prog 35 #[.pointer (some ⟨D, 0, none⟩), .pointer (some ⟨A, 0, none⟩)] w fun e w' => e = .returned (.int .i64 r) ∧ AccOut D A kind r na np ca cp false (fun W f => ∃ W0 N, AccIn D A kind na np ca cp W0 f N lA ln lc ∧ Q W0 f ∧ Chg (fun k => k = N) W0 W) w' := by
  obtain ⟨hc0, hc1, hc2, hc3, hc4, -, hc38, -, hc40, hc41, hc42, hc43⟩ := dev_c hD
  have hDlt : D < w.heap.size := World.block_lt_of_cell? w _ hc0
  have hAlt : A < w.heap.size := World.block_lt_of_cell? w _ hk
  have hf42 := dev_fr hD 42
  have hf43 := dev_fr hD 43
  rw [hcho] at hc38
  rw [hlog] at hc3
  have HD := Lib.hid hD
  have hAD : A ≠ D := fun e => hDA e.symm
  have hA1 : A < w.heap.size + 1 := by omega
  have hA2 : A < w.heap.size + 1 + 1 := by omega
  have hD1 : D < w.heap.size + 1 := by omega
  have hD2 : D < w.heap.size + 1 + 1 := by omega
  have HDO := Lib.hid hdoes
  have HCH := Lib.hid hchg
  have HPRE := Lib.hid (fun (W : World) (hb : Below (((((w.setCell ⟨D, 42, none⟩ (.map (some (w.heap.size + 1)))).setCell ⟨D, 43, none⟩ (.slice lA ln lc)).alloc (.cells #[.int .i64 0, .int .i64 0, .int .i64 0] 27)).alloc (.map #[] 0))).heap.size ((((w.setCell ⟨D, 42, none⟩ (.map (some (w.heap.size + 1)))).setCell ⟨D, 43, none⟩ (.slice lA ln lc)).alloc (.cells #[.int .i64 0, .int .i64 0, .int .i64 0] 27)).alloc (.map #[] 0)) W) =>
    (show Chg (fun k => k = D) w W ∧ MapIs HC W (w.heap.size + 1) (fun _ => none) 0 ∧ DevAt W D { f with nb := .map (some (w.heap.size + 1)), nl := .slice lA ln lc } ∧ W.heap[w.heap.size]? = some (.cells #[.int .i64 0, .int .i64 0, .int .i64 0] 27 (0, 0)) ∧ w.heap.size < W.heap.size from by
      have c1 : Chg (fun k => k = D) w ((w.setCell ⟨D, 42, none⟩ (.map (some (w.heap.size + 1)))).setCell ⟨D, 43, none⟩ (.slice lA ln lc)) := chg_set (S := fun k => k = D) (chg_set (S := fun k => k = D) (Chg.refl _ _) rfl _) rfl _
      have d1 := dev_set43 (dev_set42 hD (.map (some (w.heap.size + 1)))) (.slice lA ln lc)
      have m1 := mapIs_made HC (((w.setCell ⟨D, 42, none⟩ (.map (some (w.heap.size + 1)))).setCell ⟨D, 43, none⟩ (.slice lA ln lc)).alloc (.cells #[.int .i64 0, .int .i64 0, .int .i64 0] 27))
      have e1 : (((w.setCell ⟨D, 42, none⟩ (.map (some (w.heap.size + 1)))).setCell ⟨D, 43, none⟩ (.slice lA ln lc)).alloc (.cells #[.int .i64 0, .int .i64 0, .int .i64 0] 27)).heap.size = w.heap.size + 1 := by simp [World.size_setCell]
      rw [e1] at m1
      have e0 : ((w.setCell ⟨D, 42, none⟩ (.map (some (w.heap.size + 1)))).setCell ⟨D, 43, none⟩ (.slice lA ln lc)).heap.size = w.heap.size := by simp [World.size_setCell]
      have l1 := heap_alloc_last ((w.setCell ⟨D, 42, none⟩ (.map (some (w.heap.size + 1)))).setCell ⟨D, 43, none⟩ (.slice lA ln lc)) (.cells #[.int .i64 0, .int .i64 0, .int .i64 0] 27)
      rw [e0] at l1
      refine ⟨(chg_al (chg_al c1)).trans (Below.chg _ hb), map_bel m1 hb, dev_bel (dev_bel d1 (bg_al (bg_al (Below.refl _ _)))) hb, ?_, ?_⟩
      · rw [hb.block _ (by simp [World.size_setCell]; omega), Below.heap_alloc _ _ _ (by simp [World.size_setCell])]
        exact l1
      · have := hb.size
        simp [World.size_setCell] at this
        omega))
  have HN1 := Lib.hid hna
  have HN2 := Lib.hid hnp
  have hone : (Value.func (.func 50) #[] #[]).oneCell' = true := rfl
  clear hna hnp
  clear hD hcho hlog hdoes hchg
  go_enter Try.func35, Try.ntmps35
  go_wp2_with (first
   | (go_at_call 43; refine (manner_zero _).mono ?_; rintro en w1 ⟨rfl, hb1⟩; obtain ⟨D1, rfl⟩ := gr_of_below hb1; clear hb1)
   | (go_at_call 50; refine (honest_any _ _ _ _ (fun v w' => v = .int .i64 r ∧ (∃ f2, AccIn D A kind na np ca cp w' f2 (w.heap.size + 1) lA ln lc ∧ Q w' f2 ∧ ∃ mm nn, MapIs HC w' (w.heap.size + 1) mm nn) ∧ w'.heap[w.heap.size]? = some (.cells #[.int .i64 0, .int .i64 0, .int .i64 0] 27 (0, 0))) ((HDO.out _ (w.heap.size + 1) (HPRE.out _ (by (repeat (first | exact Below.refl _ _ | refine bg_al ?_ | refine bg_gr ?_ | refine bg_drn ?_ | refine bg_dr ?_ | assumption)))).1 (by omega) (HPRE.out _ (by (repeat (first | exact Below.refl _ _ | refine bg_al ?_ | refine bg_gr ?_ | refine bg_drn ?_ | refine bg_dr ?_ | assumption)))).2.1 (HPRE.out _ (by (repeat (first | exact Below.refl _ _ | refine bg_al ?_ | refine bg_gr ?_ | refine bg_drn ?_ | refine bg_dr ?_ | assumption)))).2.2.1).mono (fun e w' h => by obtain ⟨f2, h1, h2, h3, h5, h4⟩ := h; exact ⟨r, h1, rfl, ⟨f2, h2, h3, h5⟩, (h4 _ (Nat.le_refl _) (by omega) (HPRE.out _ (by (repeat (first | exact Below.refl _ _ | refine bg_al ?_ | refine bg_gr ?_ | refine bg_drn ?_ | refine bg_dr ?_ | assumption)))).2.2.2.2).trans (HPRE.out _ (by (repeat (first | exact Below.refl _ _ | refine bg_al ?_ | refine bg_gr ?_ | refine bg_drn ?_ | refine bg_dr ?_ | assumption)))).2.2.2.1⟩))).mono ?_; rintro en w2 ⟨r', rfl, hr', ⟨f2, hacc, hQ, mm2, nn2, hmm⟩, hch2⟩; injection hr' with _ hr'; subst hr'; have HACC := Lib.hid hacc; have HQ := Lib.hid hQ; have HC2 := Lib.hid hch2; have HMM := Lib.hid hmm; clear hacc hQ hch2 hmm)
   | (go_at_call 44; refine (HCH.out _ _ _ HACC.out HQ.out).mono ?_; rintro en w3 ⟨rfl, hb3⟩; have HB3 := Lib.hid hb3; clear hb3))
  have HACC3 := Lib.hid (accIn_chg HACC.out HMM.out HB3.out)
  obtain ⟨aA, ac, ha, hra⟩ := HACC3.out.racc
  have hd3 := HACC3.out.dev
  obtain ⟨-, -, -, -, -, -, -, j39, -, -, -, -⟩ := dev_c hd3
  rw [ha] at j39 hra
  have jf39 := dev_fr hd3 39
  have HRA := Lib.hid hra
  have j0 := HACC3.out.kind
  have hc3' := (HB3.out.block _ (Array.getElem?_eq_some_iff.1 HC2.out).1 (by omega)).trans HC2.out
  have jc : w3.cell? ⟨w.heap.size, 0, none⟩ = some (.int .i64 0) := by rw [cell_of_row _ _ _ _ _ _ hc3']; rfl
  have x0 : D < w3.heap.size := World.block_lt_of_cell? _ _ j39
  have x1 : A < w3.heap.size := World.block_lt_of_cell? _ _ j0
  have x2 : w.heap.size < w3.heap.size := World.block_lt_of_cell? _ _ jc
  have HD3 := Lib.hid hd3
  have HHA := Lib.hid ha
  obtain ⟨pA, pc, hpa, hrp⟩ := HACC3.out.rpast
  have HHP := Lib.hid hpa
  have HRP := Lib.hid hrp
  clear ha hra hd3 hc3' hpa hrp
  go_region_law (first | (refine step_ap accessesT (by rfl) (by rfl) (by rfl) (own_below HRA.out (show Below w3.heap.size w3 _ by (repeat (first | exact Below.refl _ _ | refine bg_al ?_ | refine bg_gr ?_ | refine bg_drn ?_ | refine bg_dr ?_ | assumption)))) (by rfl) (Src.block (m := 1) (heap_alloc_last _ _) (by rfl)) (by simp [Value.oneCell']) (by have := HN1.out; simp only [maxLen]; omega) (by have := HN1.out; omega) (Nat.zero_le _) ?_; intro v9 w9 hap; have HAP := Lib.hid hap; have hd9 := ap_dev hap (own_below HRA.out (show Below w3.heap.size w3 _ by (repeat (first | exact Below.refl _ _ | refine bg_al ?_ | refine bg_gr ?_ | refine bg_drn ?_ | refine bg_dr ?_ | assumption)))) (by decide) (dev_bel HD3.out (show Below w3.heap.size w3 _ by (repeat (first | exact Below.refl _ _ | refine bg_al ?_ | refine bg_gr ?_ | refine bg_drn ?_ | refine bg_dr ?_ | assumption)))); have HD9 := Lib.hid hd9; obtain ⟨-, -, -, -, -, -, -, i39, -, -, -, -⟩ := dev_c hd9; have if39 := dev_fr hd9 39; obtain ⟨g9, c9, rfl, hc9, hm9, hb9, hlt9⟩ := own_form hap.1 (by omega); clear hap hd9))
  all_goals go_wp2_with fail
  all_goals go_ret
  all_goals exact ⟨rfl, acc_fin (Q := fun W f => ∃ W0 N, AccIn D A kind na np ca cp W0 f N lA ln lc ∧ Q W0 f ∧ Chg (fun k => k = N) W0 W) (pv := f2.past) (np' := np) (cp' := cp) ⟨w2, _, HACC.out, HQ.out, HB3.out⟩ HD3.out HD3.out HHA.out HRA.out HRP.out rfl rfl (Chg.refl _ _) HAP.out (Or.inl rfl)⟩

end Go.Proofs.Ytcbglojjbgenlaa
namespace Go.Proofs.Ytcbglojjbgenlaa
open Go.RowKit Go.MapL Go.ChangeMaps Go.MapKept
set_option linter.unusedSimpArgs false
set_option linter.unusedVariables false

/-- the blocks that an honest access may write, ahead of the notes on it -/
def S0 (w : World) (D A : Nat) (F : Nat → Prop) (m : Mm) : Nat → Prop := fun k => k = D ∨ k = A ∨ k = m.B ∨ k = m.V ∨ (F k ∧ ∃ c fr, w.heap[k]? = some (.cells c 29 fr))
/-- blocks that the notes on an access may write -/
def Tf (w2 : World) : Nat → Prop := fun k => (∃ es clk, w2.heap[k]? = some (.map es clk)) ∨ ∃ c t fr, w2.heap[k]? = some (.cells c t fr) ∧ (t = 84 ∨ t = 95 ∨ t = 82)
section
variable {w : World} {D A : Nat} {F X : Nat → Prop} {d : Dv} {m : Mm} {kind n cnt : Int} {q tag : H32} {da ks : Value}
theorem core_mapB (hI : Core w D F X d m) : ∃ es clk, w.heap[m.B]? = some (.map es clk) := by
  obtain ⟨mv, hm, _⟩ := hI.blobs
  exact map_heap hm
theorem core_mapV (hI : Core w D F X d m) : ∃ es clk, w.heap[m.V]? = some (.map es clk) := by
  obtain ⟨mv, _, hm, _⟩ := hI.vers
  exact map_heap hm
theorem s0_cells (hI : Core w D F X d m) (hA : DeedAt w A kind q da ks n cnt tag) {k : Nat} {c : Array Value} {t : TypeId} {fr : Nat × Nat} (hk : w.heap[k]? = some (.cells c t fr)) (ht : t ≠ 84 ∧ t ≠ 86 ∧ t ≠ 29) : ¬ S0 w D A F m k := by
  obtain ⟨es0, clk0, hh0⟩ := core_mapB hI
  obtain ⟨es1, clk1, hh1⟩ := core_mapV hI
  have hdev := hI.dev
  unfold DevAt at hdev
  unfold DeedAt at hA
  rintro (rfl | rfl | rfl | rfl | ⟨_, c', fr', h⟩)
  · rw [hdev] at hk; injection hk with hk; injection hk with _ hk; exact ht.1 hk.symm
  · rw [hA] at hk; injection hk with hk; injection hk with _ hk; exact ht.2.1 hk.symm
  · rw [hh0] at hk; cases hk
  · rw [hh1] at hk; cases hk
  · rw [h] at hk; injection hk with hk; injection hk with _ hk; exact ht.2.2 hk.symm
theorem s0_map (hI : Core w D F X d m) (hA : DeedAt w A kind q da ks n cnt tag) {k : Nat} {es : Array MapEntry} {clk : Nat} (hk : w.heap[k]? = some (.map es clk)) (h : S0 w D A F m k) : k = m.B ∨ k = m.V := by
  have hdev := hI.dev
  unfold DevAt at hdev
  unfold DeedAt at hA
  rcases h with rfl | rfl | rfl | rfl | ⟨_, c', fr', h⟩
  · rw [hdev] at hk; cases hk
  · rw [hA] at hk; cases hk
  · exact Or.inl rfl
  · exact Or.inr rfl
  · rw [h] at hk; cases hk
theorem s0_lt (hI : Core w D F X d m) (hA : DeedAt w A kind q da ks n cnt tag) {k : Nat} (h : S0 w D A F m k) : k < w.heap.size := by
  obtain ⟨es0, clk0, hh0⟩ := core_mapB hI
  obtain ⟨es1, clk1, hh1⟩ := core_mapV hI
  rcases h with rfl | rfl | rfl | rfl | ⟨_, c', fr', h⟩
  · exact (Array.getElem?_eq_some_iff.1 hI.dev).1
  · exact (Array.getElem?_eq_some_iff.1 hA).1
  · exact (Array.getElem?_eq_some_iff.1 hh0).1
  · exact (Array.getElem?_eq_some_iff.1 hh1).1
  · exact (Array.getElem?_eq_some_iff.1 h).1
end

/-- What stands when an honest access has been done, ahead of the notes on it. -/
def Mid (w : World) (D A : Nat) (F : Nat → Prop) (d1 : Dv) (m : Mm) (kind : Int) (o : H32 → Option (Option Bs)) (nn : Nat) (T : World → Prop) (N : Nat) (w2 : World) (f2 : Fd) : Prop :=
  ∃ lv, f2 = fdOf d1 { m with lv := lv, nb := .map (some N), nl := m.lv } ∧ DevAt w2 D f2 ∧ MapB w2 (Grown F w w2) m.B d1.blobs d1.n ∧ MapV w2 (Grown F w w2) m.V d1.vers ∧ DB w2 (Grown F w w2) lv d1.log ∧ MapO w2 (Grown F w w2) N o nn ∧
    (∃ q da ks n cnt tag, DeedAt w2 A kind q da ks n cnt tag) ∧ T w2 ∧ Chg (S0 w D A F m) w w2

theorem grown_mono {F : Nat → Prop} {w w2 w' : World} (h : w2.heap.size ≤ w'.heap.size) : ∀ k, Grown F w w2 k → Grown F w w' k := fun k hk => hk.imp id (fun ⟨a, b⟩ => ⟨a, by omega⟩)

/-- all but the rows of accesses and changes -/
theorem core_fin {w w2 w' : World} {D A : Nat} {F : Nat → Prop} {d d1 : Dv} {m : Mm} (hI : Core w D F (fun k => k = m.B ∨ k = m.V) d m) {kind n cnt : Int} {q tag : H32} {da ks : Value} (hA : DeedAt w A kind q da ks n cnt tag)
    (vals : List (Value × Value)) (hrp0 : w.ownsRow 0 82 2 m.pv d.past.length (pastC vals)) (lv : Value) (N : Nat) (hN : w.heap.size ≤ N) (hd2 : ∃ f, DevAt w2 D f) (hB2 : MapB w2 (Grown F w w2) m.B d1.blobs d1.n) (hV2 : MapV w2 (Grown F w w2) m.V d1.vers) (hl2 : DB w2 (Grown F w w2) lv d1.log)
    {o : H32 → Option (Option Bs)} {nn : Nat} (hO2 : MapO w2 (Grown F w w2) N o nn) (hc02 : Chg (S0 w D A F m) w w2) (hcho : d1.cho = d.cho)
    (hcf : Chg (fun k => k = D ∨ m.av.ownBlock = some k ∨ m.pv.ownBlock = some k ∨ k = N) w2 w') (av pv : Value) (c : Ac) (ps : List Pc)
    (hdev : DevAt w' D { fdOf d1 { m with lv := lv, nb := .map (some N), nl := m.lv } with acc := av, past := pv }) (hra : w'.ownsRow 0 95 3 av (d.acc.length + 1) (d.acc.flatMap acC ++ acC c)) (hav : av.ownBlock = m.av.ownBlock ∨ ∃ k, w.heap.size ≤ k ∧ av.ownBlock = some k)
    (hps : PastAt w' (Grown F w w') (fun k => k = m.B ∨ k = m.V) pv ps) :
    Core w' D (Grown F w w') (fun k => k = m.B ∨ k = m.V) { d1 with acc := d.acc ++ [c], past := ps } { m with lv := lv, av := av, pv := pv, nb := .map (some N), nl := m.lv } := by
  obtain ⟨f2, hd2⟩ := hd2
  have hra2 : w2.ownsRow 0 95 3 m.av d.acc.length (d.acc.flatMap acC) := own_chg hI.acc.1 hc02 (fun k hk => by
    obtain ⟨_, _, hh⟩ := own_heap hI.acc.1 hk
    exact s0_cells hI hA hh (by decide))
  have hrp2 : w2.ownsRow 0 82 2 m.pv d.past.length (pastC vals) := own_chg hrp0 hc02 (fun k hk => by
    obtain ⟨_, _, hh⟩ := own_heap hrp0 hk
    exact s0_cells hI hA hh (by decide))
  obtain ⟨mo, hmo, _⟩ := hO2
  have hcell : ∀ k c t fr, w2.heap[k]? = some (.cells c t fr) → (t ≠ 84 ∧ t ≠ 95 ∧ t ≠ 82) → ¬ (k = D ∨ m.av.ownBlock = some k ∨ m.pv.ownBlock = some k ∨ k = N) := by
    rintro k c t fr hk ht (rfl | h | h | rfl)
    · unfold DevAt at hd2
      rw [hd2] at hk; injection hk with hk; injection hk with _ hk; exact ht.1 hk.symm
    · obtain ⟨_, _, hh⟩ := own_heap hra2 h
      rw [hh] at hk; injection hk with hk; injection hk with _ hk; exact ht.2.1 hk.symm
    · obtain ⟨_, _, hh⟩ := own_heap hrp2 h
      rw [hh] at hk; injection hk with hk; injection hk with _ hk; exact ht.2.2 hk.symm
    · exact map_ne_cells hmo hk rfl
  have hmap : ∀ k es clk, w2.heap[k]? = some (.map es clk) → k ≠ N → ¬ (k = D ∨ m.av.ownBlock = some k ∨ m.pv.ownBlock = some k ∨ k = N) := by
    rintro k es clk hk hn (rfl | h | h | rfl)
    · unfold DevAt at hd2
      rw [hd2] at hk; cases hk
    · obtain ⟨_, _, hh⟩ := own_heap hra2 h
      rw [hh] at hk; cases hk
    · obtain ⟨_, _, hh⟩ := own_heap hrp2 h
      rw [hh] at hk; cases hk
    · exact hn rfl
  have hsb : ∀ k, isBytes w2 k → ¬ (k = D ∨ m.av.ownBlock = some k ∨ m.pv.ownBlock = some k ∨ k = N) := fun k ⟨cs, fr, hk⟩ => hcell k _ _ _ hk (by decide)
  have hg := grown_mono (F := F) (w := w) hcf.size
  have hBl : m.B < w.heap.size := s0_lt hI hA (Or.inr (Or.inr (Or.inl rfl)))
  have hVl : m.V < w.heap.size := s0_lt hI hA (Or.inr (Or.inr (Or.inr (Or.inl rfl))))
  have hcT : Chg (fun k => S0 w D A F m k ∨ m.av.ownBlock = some k ∨ m.pv.ownBlock = some k) w w' :=
    (Chg.trans (S := fun k => (S0 w D A F m k ∨ m.av.ownBlock = some k ∨ m.pv.ownBlock = some k) ∨ w.heap.size ≤ k) (hc02.mono (fun k _ h => Or.inl (Or.inl h))) (hcf.mono (fun k _ h => by
      rcases h with rfl | h | h | rfl
      · exact Or.inl (Or.inl (Or.inl rfl))
      · exact Or.inl (Or.inr (Or.inl h))
      · exact Or.inl (Or.inr (Or.inr h))
      · exact Or.inr hN))).mono (fun k hk h => h.elim id (fun h => by omega))
  refine ⟨hdev, grown_old _ hI.fD, grown_old _ hI.fB, grown_old _ hI.fV, Or.inl rfl, Or.inr rfl, hI.bv, ?_, ?_, ?_, ?_, ?_, hps⟩
  · obtain ⟨mv, hm, _⟩ := id hB2
    obtain ⟨es, clk, hh⟩ := map_heap hm
    exact hB2.chg hcf (hmap _ _ _ hh (by omega)) hsb hg
  · obtain ⟨mv, _, hm, _⟩ := id hV2
    obtain ⟨es, clk, hh⟩ := map_heap hm
    exact hV2.chg hcf (hmap _ _ _ hh (by omega)) (fun k c fr hk => hcell k _ _ _ hk (by decide)) hsb hg
  · exact (hl2.chg hcf hsb).mono hg
  · show ChoAt w' _ m.cv d1.cho
    rw [hcho]
    refine hI.cho.chg hcT (fun k c fr hk hS => ?_) grown_old
    rcases hS with hS | hS | hS
    · exact s0_cells hI hA hk (by decide) hS
    · obtain ⟨_, _, hh⟩ := own_heap hI.acc.1 hS
      rw [hk] at hh; injection hh with hh; injection hh with _ hh; exact absurd hh (by decide)
    · obtain ⟨_, _, hh⟩ := own_heap hrp0 hS
      rw [hk] at hh; injection hh with hh; injection hh with _ hh; exact absurd hh (by decide)
  · refine ⟨?_, fun k hk => ?_⟩
    · show w'.ownsRow 0 95 3 av (d.acc ++ [c]).length ((d.acc ++ [c]).flatMap acC)
      rw [flatMap_snoc, List.length_append]
      exact hra
    · rcases hav with h | ⟨j, hj, h⟩
      · exact Or.inl (hI.acc.2 k (h ▸ hk))
      · rw [h] at hk
        injection hk with hk
        subst hk
        obtain ⟨_, _, hh⟩ := own_heap hra h
        exact Or.inr ⟨hj, (Array.getElem?_eq_some_iff.1 hh).1⟩

/-- the change of the whole access -/
theorem whole_chg {w w2 w' : World} {D A : Nat} {F : Nat → Prop} {d : Dv} {m : Mm} (hI : Core w D F (fun k => k = m.B ∨ k = m.V) d m) {kind n cnt : Int} {q tag : H32} {da ks : Value} (hA : DeedAt w A kind q da ks n cnt tag)
    (vals : List (Value × Value)) (hrp0 : w.ownsRow 0 82 2 m.pv d.past.length (pastC vals)) (hpF : ∀ k, m.pv.ownBlock = some k → F k) (N : Nat) (hN : w.heap.size ≤ N) (hc02 : Chg (S0 w D A F m) w w2)
    (hcf : Chg (fun k => k = D ∨ m.av.ownBlock = some k ∨ m.pv.ownBlock = some k ∨ k = N) w2 w') :
    Chg (fun k => S0 w D A F m k ∨ m.av.ownBlock = some k ∨ m.pv.ownBlock = some k) w w' ∧ Chg (fun k => (F k ∨ k = A) ∧ ¬ isBytes w k) w w' ∧ (∀ k es clk, w.heap[k]? = some (.map es clk) → (S0 w D A F m k ∨ m.av.ownBlock = some k ∨ m.pv.ownBlock = some k) → k = m.B ∨ k = m.V) ∧
      ∀ k, isBytes w k → ¬ (S0 w D A F m k ∨ m.av.ownBlock = some k ∨ m.pv.ownBlock = some k) := by
  have hcT : Chg (fun k => S0 w D A F m k ∨ m.av.ownBlock = some k ∨ m.pv.ownBlock = some k) w w' :=
    (Chg.trans (S := fun k => (S0 w D A F m k ∨ m.av.ownBlock = some k ∨ m.pv.ownBlock = some k) ∨ w.heap.size ≤ k) (hc02.mono (fun k _ h => Or.inl (Or.inl h))) (hcf.mono (fun k _ h => by
      rcases h with rfl | h | h | rfl
      · exact Or.inl (Or.inl (Or.inl rfl))
      · exact Or.inl (Or.inr (Or.inl h))
      · exact Or.inl (Or.inr (Or.inr h))
      · exact Or.inr hN))).mono (fun k hk h => h.elim id (fun h => by omega))
  have hnb : ∀ k, isBytes w k → ¬ (S0 w D A F m k ∨ m.av.ownBlock = some k ∨ m.pv.ownBlock = some k) := by
    rintro k ⟨cs, fr, hb⟩ (h | h | h)
    · exact s0_cells hI hA hb (by decide) h
    · obtain ⟨_, _, hh⟩ := own_heap hI.acc.1 h
      rw [hb] at hh; injection hh with hh; injection hh with _ hh; exact absurd hh (by decide)
    · obtain ⟨_, _, hh⟩ := own_heap hrp0 h
      rw [hb] at hh; injection hh with hh; injection hh with _ hh; exact absurd hh (by decide)
  refine ⟨hcT, hcT.mono (fun k _ hk => ⟨?_, fun hb => hnb k hb hk⟩), ?_, hnb⟩
  · rcases hk with (rfl | rfl | rfl | rfl | ⟨h, _⟩) | hk | hk
    · exact Or.inl hI.fD
    · exact Or.inr rfl
    · exact Or.inl hI.fB
    · exact Or.inl hI.fV
    · exact Or.inl h
    · exact Or.inl (hI.acc.2 k hk)
    · exact Or.inl (hpF k hk)
  · rintro k es clk hk (h | h | h)
    · exact s0_map hI hA hk h
    · obtain ⟨_, _, hh⟩ := own_heap hI.acc.1 h
      rw [hk] at hh; cases hh
    · obtain ⟨_, _, hh⟩ := own_heap hrp0 h
      rw [hk] at hh; cases hh

/-- the row of changes, none added -/
theorem past_same {w w2 w' : World} {D A : Nat} {F : Nat → Prop} {d : Dv} {m : Mm} {S : Nat → Prop} (vals : List (Value × Value)) (hvl : vals.length = d.past.length)
    (hpc : ∀ i (h : i < d.past.length) (h' : i < vals.length), PcAt w F (fun k => k = m.B ∨ k = m.V) vals[i].1 vals[i].2 d.past[i]) (hpF : ∀ k, m.pv.ownBlock = some k → F k) (hcT : Chg S w w') (hm : ∀ k es clk, w.heap[k]? = some (.map es clk) → S k → k = m.B ∨ k = m.V) (hs : ∀ k, isBytes w k → ¬ S k)
    (pv : Value) (hrp : w'.ownsRow 0 82 2 pv d.past.length (pastC vals)) (hpv : pv.ownBlock = m.pv.ownBlock ∨ ∃ k, w.heap.size ≤ k ∧ pv.ownBlock = some k) : PastAt w' (Grown F w w') (fun k => k = m.B ∨ k = m.V) pv d.past := by
  refine ⟨vals, hvl, hrp, fun i hi hi' => (hpc i hi hi').chg hcT hm hs grown_old, fun k hk => ?_⟩
  rcases hpv with h | ⟨j, hj, h⟩
  · exact Or.inl (hpF k (h ▸ hk))
  · rw [h] at hk
    injection hk with hk
    subst hk
    obtain ⟨_, _, hh⟩ := own_heap hrp h
    exact Or.inr ⟨hj, (Array.getElem?_eq_some_iff.1 hh).1⟩
/-- .. one added -/
theorem past_more {w w' : World} {F : Nat → Prop} {d : Dv} {m : Mm} {S : Nat → Prop} (vals : List (Value × Value)) (hvl : vals.length = d.past.length)
    (hpc : ∀ i (h : i < d.past.length) (h' : i < vals.length), PcAt w F (fun k => k = m.B ∨ k = m.V) vals[i].1 vals[i].2 d.past[i]) (hpF : ∀ k, m.pv.ownBlock = some k → F k) (hcT : Chg S w w') (hm : ∀ k es clk, w.heap[k]? = some (.map es clk) → S k → k = m.B ∨ k = m.V) (hs : ∀ k, isBytes w k → ¬ S k)
    (pv : Value) (N : Nat) (hN : w.heap.size ≤ N) (hBl : m.B < w.heap.size) (hVl : m.V < w.heap.size) (lv0 : Value) (log0 : Bs) {o : H32 → Option (Option Bs)} {nn : Nat} (hO : MapO w' (Grown F w w') N o nn) (hl0 : DB w' (Grown F w w') lv0 log0)
    (hrp : w'.ownsRow 0 82 2 pv (d.past.length + 1) (pastC vals ++ [.map (some N), lv0])) (hpv : pv.ownBlock = m.pv.ownBlock ∨ ∃ k, w.heap.size ≤ k ∧ pv.ownBlock = some k) : PastAt w' (Grown F w w') (fun k => k = m.B ∨ k = m.V) pv (d.past ++ [⟨o, nn, log0⟩]) := by
  refine ⟨vals ++ [(.map (some N), lv0)], by simp [hvl], ?_, fun i hi hi' => ?_, fun k hk => ?_⟩
  · rw [flatMap_snoc]
    show w'.ownsRow 0 82 2 pv (d.past ++ [_]).length _
    rw [List.length_append]
    exact hrp
  · rcases getElem_snoc d.past ⟨o, nn, log0⟩ i hi with ⟨a1, e1⟩ | ⟨a1, e1⟩
    · have a2 : i < vals.length := by omega
      have e2 : (vals ++ [(.map (some N), lv0)])[i] = vals[i] := List.getElem_append_left a2
      rw [e1, e2]
      exact (hpc i a1 a2).chg hcT hm hs grown_old
    · have a2 : i = vals.length := by omega
      have e2 : (vals ++ [(.map (some N), lv0)])[i] = (.map (some N), lv0) := by subst a2; simp
      rw [e1, e2]
      refine ⟨N, rfl, ?_, ?_, hO, hl0⟩
      · obtain ⟨mo, hmo, _⟩ := hO
        exact Or.inr ⟨hN, hmo.lt⟩
      · rintro (h | h)
        · omega
        · omega
  · rcases hpv with h | ⟨j, hj, h⟩
    · exact Or.inl (hpF k (h ▸ hk))
    · rw [h] at hk
      injection hk with hk
      subst hk
      obtain ⟨_, _, hh⟩ := own_heap hrp h
      exact Or.inr ⟨hj, (Array.getElem?_eq_some_iff.1 hh).1⟩
end Go.Proofs.Ytcbglojjbgenlaa
namespace Go.Proofs.Ytcbglojjbgenlaa
open Go.RowKit Go.MapL Go.ChangeMaps Go.MapKept
set_option linter.unusedSimpArgs false
set_option linter.unusedVariables false

theorem access_all (D A : Nat) (f : Fd) (kind r : Int) (na np : Nat) (ca cp : List Value) (w : World) (hD : DevAt w D f) (cA : Option Addr) (cc : Nat) (hcho : f.cho = .slice cA 0 cc) (lA : Option Addr) (ln lc : Nat) (hlog : f.log = .slice lA ln lc) (hk : w.cell? ⟨A, 0, none⟩ = some (.int .i64 kind)) (hDA : D ≠ A)
    (Q : World → Fd → Prop)
    (hdoes : ∀ W N, Chg (fun k => k = D) w W → w.heap.size ≤ N → MapIs HC W N (fun _ => none) 0 → DevAt W D { f with nb := .map (some N), nl := .slice lA ln lc } →
      Calls Try.prog 62 #[.pointer (some ⟨D, 0, none⟩), .pointer (some ⟨A, 0, none⟩)] W fun e w' => ∃ f2, e = .returned (.int .i64 r) ∧ AccIn D A kind na np ca cp w' f2 N lA ln lc ∧ Q w' f2 ∧ (∃ mm nn, MapIs HC w' N mm nn) ∧ ∀ k, w.heap.size ≤ k → k ≠ N → k < W.heap.size → w'.heap[k]? = W.heap[k]?)
    (hchg : ∀ W f2 N, AccIn D A kind na np ca cp W f2 N lA ln lc → Q W f2 → Calls Try.prog 44 #[.pointer (some ⟨D, 0, none⟩)] W fun e w' => e = .returned (.bool false) ∧ Chg (fun k => k = N) W w')
    (hna : na ≤ 1099511627776) (hnp : np ≤ 1099511627776) :
    Calls Try.prog 35 #[.pointer (some ⟨D, 0, none⟩), .pointer (some ⟨A, 0, none⟩)] w fun e w' => e = .returned (.int .i64 r) ∧ AccOut D A kind r na np ca cp false (fun W f => ∃ W0 N, AccIn D A kind na np ca cp W0 f N lA ln lc ∧ Q W0 f ∧ Chg (fun k => k = N) W0 W) w' := by
  cases h9 : (kind == 9) with
  | true => exact access_n9 D A f kind r na np ca cp w hD cA cc hcho lA ln lc hlog hk hDA Q hdoes hchg hna hnp h9
  | false =>
    cases h10 : (kind == 10) with
    | true => exact access_n10 D A f kind r na np ca cp w hD cA cc hcho lA ln lc hlog hk hDA Q hdoes hchg hna hnp h9 h10
    | false => exact access_n D A f kind r na np ca cp w hD cA cc hcho lA ln lc hlog hk hDA Q hdoes hchg hna hnp h9 h10

/-- the contract of an honest access, ahead of the notes -/
def DoesC (w : World) (D A : Nat) (F : Nat → Prop) (d d1 : Dv) (kind r : Int) (o : H32 → Option (Option Bs)) (nn : Nat) (T : World → Prop) : Prop :=
  ∀ m W N, Core w D F (fun k => k = m.B ∨ k = m.V) d m → Chg (fun k => k = D) w W → w.heap.size ≤ N → N < W.heap.size → MapIs HC W N (fun _ => none) 0 → DevAt W D { fdOf d m with nb := .map (some N), nl := m.lv } →
    Calls Try.prog 62 #[.pointer (some ⟨D, 0, none⟩), .pointer (some ⟨A, 0, none⟩)] W fun e w2 => e = .returned (.int .i64 r) ∧ ∃ f2, Mid w D A F d1 m kind o nn T N w2 f2 ∧ Chg (fun k => S0 w D A F m k ∨ k = N) W w2
/-- .. of the look behind it -/
def ChgC (w : World) (D A : Nat) (F : Nat → Prop) (d d1 : Dv) (kind : Int) (o : H32 → Option (Option Bs)) (nn : Nat) (T : World → Prop) (R : Nat → World → Ending → World → Prop) : Prop :=
  ∀ m W N f2, Core w D F (fun k => k = m.B ∨ k = m.V) d m → w.heap.size ≤ N → Mid w D A F d1 m kind o nn T N W f2 → Calls Try.prog 44 #[.pointer (some ⟨D, 0, none⟩)] W (R N W)

theorem acc_gen_no {w : World} {D A : Nat} {F : Nat → Prop} {d : Dv} (h : Awake w D F d) {kind n cnt : Int} {q tag : H32} {da ks : Value} (hA : DeedAt w A kind q da ks n cnt tag) (r : Int) (d1 : Dv) (o : H32 → Option (Option Bs)) (nn : Nat) (T : World → Prop)
    (hcho : d1.cho = d.cho) (hdoes : DoesC w D A F d d1 kind r o nn T) (hchg : ChgC w D A F d d1 kind o nn T (fun N W e w' => e = .returned (.bool false) ∧ Chg (fun k => k = N) W w')) (hT : ∀ w2 w', T w2 → Chg (Tf w2) w2 w' → T w')
    (hfew : d.acc.length < 1099511627776) (hlow : d1.log.length ≤ 1048576) (hver : ∀ q, (d1.vers q).length ≤ 1099511627776) :
    Calls Try.prog 35 #[.pointer (some ⟨D, 0, none⟩), .pointer (some ⟨A, 0, none⟩)] w fun e w' => e = .returned (.int .i64 r) ∧
      Awake w' D (Grown F w w') { d1 with acc := d.acc ++ [(kind, 0, r == 0)], past := d.past } ∧ T w' ∧ Chg (fun k => (F k ∨ k = A) ∧ ¬ isBytes w k) w w' := by
  obtain ⟨m, hI, ⟨cA, cc, hcv⟩, ⟨lA, lc, hlv⟩, ⟨aA, ac, hav⟩, vals, pA, pc, hpv, hvl, hrp0, hpc, hpF⟩ := h.parts
  have hDA : D ≠ A := dev_ne_deed hI.dev hA
  refine (access_all D A (fdOf d m) kind r d.acc.length d.past.length (d.acc.flatMap acC) (pastC vals) w hI.dev cA cc hcv lA d.log.length lc hlv (deed_c hA).1 hDA (fun w2 f2 => ∃ N, w.heap.size ≤ N ∧ Mid w D A F d1 m kind o nn T N w2 f2) ?_ ?_ (by omega) h.few.2.1).mono ?_
  · intro W N hcW hN hmN hdW
    refine (hdoes m W N hI hcW hN hmN.lt hmN (by rw [hlv]; exact hdW)).mono ?_
    rintro e w2 ⟨rfl, f2, hM, hc2⟩
    have hM' := hM
    obtain ⟨lv, rfl, hd2, hB2, hV2, hl2, ⟨mo, hmo, hro⟩, hdd, hT2, hc02⟩ := hM
    refine ⟨_, rfl, ⟨hd2, rfl, hlv, ⟨aA, ac, hav, ?_⟩, ⟨pA, pc, hpv, ?_⟩, hdd⟩, ⟨N, hN, hM'⟩, ⟨mo, _, hmo⟩, fun k h1 h2 h3 => hc2.block k h3 ?_⟩
    · exact own_chg hI.acc.1 hc02 (fun k hk => by
        obtain ⟨_, _, hh⟩ := own_heap hI.acc.1 hk
        exact s0_cells hI hA hh (by decide))
    · exact own_chg hrp0 hc02 (fun k hk => by
        obtain ⟨_, _, hh⟩ := own_heap hrp0 hk
        exact s0_cells hI hA hh (by decide))
    · rintro (h4 | h4)
      · have := s0_lt hI hA h4
        omega
      · exact h2 h4
  · rintro W f2 N' hacc ⟨N, hN, hM⟩
    have hNN : N = N' := by
      obtain ⟨lv, rfl, _⟩ := hM
      have := hacc.nb
      injection this with this
      injection this
    subst hNN
    exact hchg m W N f2 hI hN hM
  · rintro e w' ⟨rfl, w3, f2, av, pv, ⟨w2, N, hacc, ⟨N', hN', hM⟩, hc3⟩, hd3, hdev, hra, hrp, hc', ha', hp'⟩
    obtain ⟨lv, rfl, hd2, hB2, hV2, hl2, hO2, hdd, hT2, hc02⟩ := hM
    have hNN : N' = N := by
      have := hacc.nb
      injection this with this
      injection this
    subst hNN
    have hcf : Chg (fun k => k = D ∨ m.av.ownBlock = some k ∨ m.pv.ownBlock = some k ∨ k = N') w2 w' := (hc3.mono (fun k _ e => Or.inr (Or.inr (Or.inr e)))).trans (hc'.mono (fun k _ h => by
      rcases h with h | h | h
      · exact Or.inl h
      · exact Or.inr (Or.inl h)
      · exact Or.inr (Or.inr (Or.inl h))))
    obtain ⟨hcT, hcA, hmT, hbT⟩ := whole_chg hI hA vals hrp0 hpF N' hN' hc02 hcf
    have hz : w.heap.size ≤ w3.heap.size := Nat.le_trans hc02.size hc3.size
    have hav' : av.ownBlock = m.av.ownBlock ∨ ∃ k, w.heap.size ≤ k ∧ av.ownBlock = some k := ha'.imp id (fun ⟨k, h1, h2⟩ => ⟨k, by omega, h2⟩)
    have hpv' : pv.ownBlock = m.pv.ownBlock ∨ ∃ k, w.heap.size ≤ k ∧ pv.ownBlock = some k := hp'.imp id (fun ⟨k, h1, h2⟩ => ⟨k, by omega, h2⟩)
    have hps : PastAt w' (Grown F w w') (fun k => k = m.B ∨ k = m.V) pv d.past := past_same (w2 := w2) (D := D) (A := A) vals hvl hpc hpF hcT hmT hbT pv (by simpa using hrp) hpv'
    have hcore := core_fin hI hA vals hrp0 lv N' hN' ⟨_, hd2⟩ hB2 hV2 hl2 hO2 hc02 hcho hcf av pv (kind, 0, r == 0) d.past hdev hra hav' hps
    have hTf : T w' := hT w2 w' hT2 (hcf.mono (fun k hk hS => by
      have hra2 : w2.ownsRow 0 95 3 m.av d.acc.length (d.acc.flatMap acC) := own_chg hI.acc.1 hc02 (fun k hk => by
        obtain ⟨_, _, hh⟩ := own_heap hI.acc.1 hk
        exact s0_cells hI hA hh (by decide))
      have hrp2 : w2.ownsRow 0 82 2 m.pv d.past.length (pastC vals) := own_chg hrp0 hc02 (fun k hk => by
        obtain ⟨_, _, hh⟩ := own_heap hrp0 hk
        exact s0_cells hI hA hh (by decide))
      rcases hS with rfl | hS | hS | rfl
      · exact Or.inr ⟨_, _, _, hd2, Or.inl rfl⟩
      · obtain ⟨_, _, hh⟩ := own_heap hra2 hS
        exact Or.inr ⟨_, _, _, hh, Or.inr (Or.inl rfl)⟩
      · obtain ⟨_, _, hh⟩ := own_heap hrp2 hS
        exact Or.inr ⟨_, _, _, hh, Or.inr (Or.inr rfl)⟩
      · obtain ⟨mo, hmo, _⟩ := hO2
        exact Or.inl (map_heap hmo)))
    refine ⟨rfl, ⟨⟨{ m with lv := lv, av := av, pv := pv, nb := .map (some N'), nl := m.lv }, hcore⟩, fun k hk => ?_, by show d1.cho = []; rw [hcho]; exact h.cho, ⟨by simp; omega, h.few.2.1, hver⟩, hlow⟩, hTf, hcA⟩
    rcases hk with hk | hk
    · have := h.fit k hk; have := hcT.size; omega
    · exact hk.2

theorem acc_gen_ch {w : World} {D A : Nat} {F : Nat → Prop} {d : Dv} (h : Awake w D F d) {kind n cnt : Int} {q tag : H32} {da ks : Value} (hA : DeedAt w A kind q da ks n cnt tag) (r : Int) (d1 : Dv) (o : H32 → Option (Option Bs)) (nn : Nat) (T : World → Prop)
    (hcho : d1.cho = d.cho) (hdoes : DoesC w D A F d d1 kind r o nn T) (hchg : ChgC w D A F d d1 kind o nn T (fun _ W e w' => e = .returned (.bool true) ∧ Below W.heap.size W w')) (hT : ∀ w2 w', T w2 → Chg (Tf w2) w2 w' → T w')
    (h9 : (kind == 9) = false) (h10 : (kind == 10) = false) (hfew : d.acc.length < 1099511627776 ∧ d.past.length < 1099511627776) (hlow : d1.log.length ≤ 1048576) (hver : ∀ q, (d1.vers q).length ≤ 1099511627776) :
    Calls Try.prog 35 #[.pointer (some ⟨D, 0, none⟩), .pointer (some ⟨A, 0, none⟩)] w fun e w' => e = .returned (.int .i64 r) ∧
      Awake w' D (Grown F w w') { d1 with acc := d.acc ++ [(kind, 0, r == 0)], past := d.past ++ [⟨o, nn, d.log⟩] } ∧ T w' ∧ Chg (fun k => (F k ∨ k = A) ∧ ¬ isBytes w k) w w' := by
  obtain ⟨m, hI, ⟨cA, cc, hcv⟩, ⟨lA, lc, hlv⟩, ⟨aA, ac, hav⟩, vals, pA, pc, hpv, hvl, hrp0, hpc, hpF⟩ := h.parts
  have hDA : D ≠ A := dev_ne_deed hI.dev hA
  refine (access_ch D A (fdOf d m) kind r d.acc.length d.past.length (d.acc.flatMap acC) (pastC vals) w hI.dev cA cc hcv lA d.log.length lc hlv (deed_c hA).1 hDA (fun w2 f2 => ∃ N, w.heap.size ≤ N ∧ Mid w D A F d1 m kind o nn T N w2 f2) ?_ ?_ (by omega) (by omega) h9 h10).mono ?_
  · intro W N hcW hN hmN hdW
    refine (hdoes m W N hI hcW hN hmN.lt hmN (by rw [hlv]; exact hdW)).mono ?_
    rintro e w2 ⟨rfl, f2, hM, hc2⟩
    have hM' := hM
    obtain ⟨lv, rfl, hd2, hB2, hV2, hl2, ⟨mo, hmo, hro⟩, hdd, hT2, hc02⟩ := hM
    refine ⟨_, rfl, ⟨hd2, rfl, hlv, ⟨aA, ac, hav, ?_⟩, ⟨pA, pc, hpv, ?_⟩, hdd⟩, ⟨N, hN, hM'⟩, fun k h1 h2 h3 => hc2.block k h3 ?_⟩
    · exact own_chg hI.acc.1 hc02 (fun k hk => by
        obtain ⟨_, _, hh⟩ := own_heap hI.acc.1 hk
        exact s0_cells hI hA hh (by decide))
    · exact own_chg hrp0 hc02 (fun k hk => by
        obtain ⟨_, _, hh⟩ := own_heap hrp0 hk
        exact s0_cells hI hA hh (by decide))
    · rintro (h4 | h4)
      · have := s0_lt hI hA h4
        omega
      · exact h2 h4
  · rintro W f2 N' hacc ⟨N, hN, hM⟩
    have hNN : N = N' := by
      obtain ⟨lv, rfl, _⟩ := hM
      have := hacc.nb
      injection this with this
      injection this
    subst hNN
    exact hchg m W N f2 hI hN hM
  · rintro e w' ⟨rfl, w2, f2, av, pv, ⟨N', hN', hM⟩, hd3, hdev, hra, hrp, hc', ha', hp'⟩
    obtain ⟨lv, rfl, hd2, hB2, hV2, hl2, hO2, hdd, hT2, hc02⟩ := hM
    have hcf : Chg (fun k => k = D ∨ m.av.ownBlock = some k ∨ m.pv.ownBlock = some k ∨ k = N') w2 w' := (hc'.mono (fun k _ h => by
      rcases h with h | h | h
      · exact Or.inl h
      · exact Or.inr (Or.inl h)
      · exact Or.inr (Or.inr (Or.inl h))))
    obtain ⟨hcT, hcA, hmT, hbT⟩ := whole_chg hI hA vals hrp0 hpF N' hN' hc02 hcf
    have hz : w.heap.size ≤ w2.heap.size := hc02.size
    have hav' : av.ownBlock = m.av.ownBlock ∨ ∃ k, w.heap.size ≤ k ∧ av.ownBlock = some k := ha'.imp id (fun ⟨k, h1, h2⟩ => ⟨k, by omega, h2⟩)
    have hpv' : pv.ownBlock = m.pv.ownBlock ∨ ∃ k, w.heap.size ≤ k ∧ pv.ownBlock = some k := hp'.imp id (fun ⟨k, h1, h2⟩ => ⟨k, by omega, h2⟩)
    have hra2 : w2.ownsRow 0 95 3 m.av d.acc.length (d.acc.flatMap acC) := own_chg hI.acc.1 hc02 (fun k hk => by
      obtain ⟨_, _, hh⟩ := own_heap hI.acc.1 hk
      exact s0_cells hI hA hh (by decide))
    have hrp2 : w2.ownsRow 0 82 2 m.pv d.past.length (pastC vals) := own_chg hrp0 hc02 (fun k hk => by
      obtain ⟨_, _, hh⟩ := own_heap hrp0 hk
      exact s0_cells hI hA hh (by decide))
    have hcell : ∀ k c t fr, w2.heap[k]? = some (.cells c t fr) → (t ≠ 84 ∧ t ≠ 95 ∧ t ≠ 82) → ¬ (k = D ∨ m.av.ownBlock = some k ∨ m.pv.ownBlock = some k) := by
      rintro k c t fr hk ht (rfl | h | h)
      · unfold DevAt at hd2
        rw [hd2] at hk; injection hk with hk; injection hk with _ hk; exact ht.1 hk.symm
      · obtain ⟨_, _, hh⟩ := own_heap hra2 h
        rw [hh] at hk; injection hk with hk; injection hk with _ hk; exact ht.2.1 hk.symm
      · obtain ⟨_, _, hh⟩ := own_heap hrp2 h
        rw [hh] at hk; injection hk with hk; injection hk with _ hk; exact ht.2.2 hk.symm
    have hsb2 : ∀ k, isBytes w2 k → ¬ (k = D ∨ m.av.ownBlock = some k ∨ m.pv.ownBlock = some k) := fun k ⟨cs, fr, hk⟩ => hcell k _ _ _ hk (by decide)
    have hO' : MapO w' (Grown F w w') N' o nn := by
      obtain ⟨mo, hmo, _⟩ := id hO2
      refine hO2.chg hc' (fun e => ?_) hsb2 (grown_mono hc'.size)
      rcases e with e | e | e
      · exact map_ne_cells hmo hd2 e
      · obtain ⟨_, _, hh⟩ := own_heap hra2 e
        exact map_ne_cells hmo hh rfl
      · obtain ⟨_, _, hh⟩ := own_heap hrp2 e
        exact map_ne_cells hmo hh rfl
    have hps : PastAt w' (Grown F w w') (fun k => k = m.B ∨ k = m.V) pv (d.past ++ [⟨o, nn, d.log⟩]) := past_more vals hvl hpc hpF hcT hmT hbT pv N' hN' (s0_lt hI hA (Or.inr (Or.inr (Or.inl rfl)))) (s0_lt hI hA (Or.inr (Or.inr (Or.inr (Or.inl rfl))))) m.lv d.log hO' ((hI.log.chg hcT hbT).mono grown_old) hrp hpv'
    have hcore := core_fin hI hA vals hrp0 lv N' hN' ⟨_, hd2⟩ hB2 hV2 hl2 hO2 hc02 hcho hcf av pv (kind, 0, r == 0) (d.past ++ [⟨o, nn, d.log⟩]) hdev hra hav' hps
    have hTf : T w' := hT w2 w' hT2 (hcf.mono (fun k hk hS => by
      rcases hS with rfl | hS | hS | rfl
      · exact Or.inr ⟨_, _, _, hd2, Or.inl rfl⟩
      · obtain ⟨_, _, hh⟩ := own_heap hra2 hS
        exact Or.inr ⟨_, _, _, hh, Or.inr (Or.inl rfl)⟩
      · obtain ⟨_, _, hh⟩ := own_heap hrp2 hS
        exact Or.inr ⟨_, _, _, hh, Or.inr (Or.inr rfl)⟩
      · obtain ⟨mo, hmo, _⟩ := hO2
        exact Or.inl (map_heap hmo)))
    refine ⟨rfl, ⟨⟨{ m with lv := lv, av := av, pv := pv, nb := .map (some N'), nl := m.lv }, hcore⟩, fun k hk => ?_, by show d1.cho = []; rw [hcho]; exact h.cho, ⟨by simp; omega, by simp; omega, hver⟩, hlow⟩, hTf, hcA⟩
    rcases hk with hk | hk
    · have := h.fit k hk; have := hcT.size; omega
    · exact hk.2

end Go.Proofs.Ytcbglojjbgenlaa
