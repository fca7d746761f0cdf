/- One access by no choice that changes nothing. -/
import Derived.Test.YtcbglojjbgenlaaMdC
namespace Go.Proofs.Ytcbglojjbgenlaa
open Go.RowKit Go.MapL Go.ChangeMaps Go.MapKept
set_option linter.unusedSimpArgs false
set_option linter.unusedVariables false
attribute [local go_sem] size_gr cell_gr frozen_gr setCell_gr gr_drew gr_drewN lt_k lt_kc le_k le_kc sub_kc nil29 nil28 nil49 mkmap size_setBlock cell_setB st_fun
attribute [local go_sem ↓] Go.wp_at_zero Go.wp_at_succ

set_option maxHeartbeats 1000000 in
set_option maxRecDepth 8000 in
theorem access_no (D A : Nat) (f : Fd) (kind r : Int) (na np : Nat) (ca cp : List Value) (w : World) (hD : DevAt w D f) (cA : Option Addr) (cc : Nat) (hcho : f.cho = .slice cA 0 cc) (lA : Option Addr) (ln lc : Nat) (hlog : f.log = .slice lA ln lc) (hk : w.cell? ⟨A, 0, none⟩ = some (.int .i64 kind)) (hDA : D ≠ A)
    (Q : World → Fd → Prop)
    (hdoes : ∀ W N, Chg (fun k => k = D) w W → w.heap.size ≤ N → MapIs HC W N (fun _ => none) 0 → DevAt W D { f with nb := .map (some N), nl := .slice lA ln lc } →
      Calls Try.prog 62 #[.pointer (some ⟨D, 0, none⟩), .pointer (some ⟨A, 0, none⟩)] W fun e w' => ∃ f2, e = .returned (.int .i64 r) ∧ AccIn D A kind na np ca cp w' f2 N lA ln lc ∧ Q w' f2 ∧ ∀ k, w.heap.size ≤ k → k ≠ N → k < W.heap.size → w'.heap[k]? = W.heap[k]?)
    (hchg : ∀ W f2 N, AccIn D A kind na np ca cp W f2 N lA ln lc → Q W f2 → Calls Try.prog 44 #[.pointer (some ⟨D, 0, none⟩)] W fun e w' => e = .returned (.bool false) ∧ Below W.heap.size W w')
    (hna : na ≤ 1099511627776) (hnp : np ≤ 1099511627776) (h9 : (kind == 9) = false) (h10 : (kind == 10) = false) :
    Calls Try.prog 35 #[.pointer (some ⟨D, 0, none⟩), .pointer (some ⟨A, 0, none⟩)] w fun e w' => e = .returned (.int .i64 r) ∧ AccOut D A kind r na np ca cp false Q w' := by
  obtain ⟨hc0, hc1, hc2, hc3, hc4, -, hc38, -, hc40, hc41, hc42, hc43⟩ := dev_c hD
  have hDlt : D < w.heap.size := World.block_lt_of_cell? w _ hc0
  have hAlt : A < w.heap.size := World.block_lt_of_cell? w _ hk
  have hf42 := dev_fr hD 42
  have hf43 := dev_fr hD 43
  rw [hcho] at hc38
  rw [hlog] at hc3
  have HD := Lib.hid hD
  have hAD : A ≠ D := fun e => hDA e.symm
  have hA1 : A < w.heap.size + 1 := by omega
  have hA2 : A < w.heap.size + 1 + 1 := by omega
  have hD1 : D < w.heap.size + 1 := by omega
  have hD2 : D < w.heap.size + 1 + 1 := by omega
  have HDO := Lib.hid hdoes
  have HCH := Lib.hid hchg
  have HPRE := Lib.hid (fun (W : World) (hb : Below (((((w.setCell ⟨D, 42, none⟩ (.map (some (w.heap.size + 1)))).setCell ⟨D, 43, none⟩ (.slice lA ln lc)).alloc (.cells #[.int .i64 0, .int .i64 0, .int .i64 0] 27)).alloc (.map #[] 0))).heap.size ((((w.setCell ⟨D, 42, none⟩ (.map (some (w.heap.size + 1)))).setCell ⟨D, 43, none⟩ (.slice lA ln lc)).alloc (.cells #[.int .i64 0, .int .i64 0, .int .i64 0] 27)).alloc (.map #[] 0)) W) =>
    (show Chg (fun k => k = D) w W ∧ MapIs HC W (w.heap.size + 1) (fun _ => none) 0 ∧ DevAt W D { f with nb := .map (some (w.heap.size + 1)), nl := .slice lA ln lc } ∧ W.heap[w.heap.size]? = some (.cells #[.int .i64 0, .int .i64 0, .int .i64 0] 27 (0, 0)) ∧ w.heap.size < W.heap.size from by
      have c1 : Chg (fun k => k = D) w ((w.setCell ⟨D, 42, none⟩ (.map (some (w.heap.size + 1)))).setCell ⟨D, 43, none⟩ (.slice lA ln lc)) := chg_set (S := fun k => k = D) (chg_set (S := fun k => k = D) (Chg.refl _ _) rfl _) rfl _
      have d1 := dev_set43 (dev_set42 hD (.map (some (w.heap.size + 1)))) (.slice lA ln lc)
      have m1 := mapIs_made HC (((w.setCell ⟨D, 42, none⟩ (.map (some (w.heap.size + 1)))).setCell ⟨D, 43, none⟩ (.slice lA ln lc)).alloc (.cells #[.int .i64 0, .int .i64 0, .int .i64 0] 27))
      have e1 : (((w.setCell ⟨D, 42, none⟩ (.map (some (w.heap.size + 1)))).setCell ⟨D, 43, none⟩ (.slice lA ln lc)).alloc (.cells #[.int .i64 0, .int .i64 0, .int .i64 0] 27)).heap.size = w.heap.size + 1 := by simp [World.size_setCell]
      rw [e1] at m1
      have e0 : ((w.setCell ⟨D, 42, none⟩ (.map (some (w.heap.size + 1)))).setCell ⟨D, 43, none⟩ (.slice lA ln lc)).heap.size = w.heap.size := by simp [World.size_setCell]
      have l1 := heap_alloc_last ((w.setCell ⟨D, 42, none⟩ (.map (some (w.heap.size + 1)))).setCell ⟨D, 43, none⟩ (.slice lA ln lc)) (.cells #[.int .i64 0, .int .i64 0, .int .i64 0] 27)
      rw [e0] at l1
      refine ⟨(chg_al (chg_al c1)).trans (Below.chg _ hb), map_bel m1 hb, dev_bel (dev_bel d1 (bg_al (bg_al (Below.refl _ _)))) hb, ?_, ?_⟩
      · rw [hb.block _ (by simp [World.size_setCell]; omega), Below.heap_alloc _ _ _ (by simp [World.size_setCell])]
        exact l1
      · have := hb.size
        simp [World.size_setCell] at this
        omega))
  have HN1 := Lib.hid hna
  have HN2 := Lib.hid hnp
  have hone : (Value.func (.func 50) #[] #[]).oneCell' = true := rfl
  clear hna hnp
  clear hD hcho hlog hdoes hchg
  go_enter Try.func35, Try.ntmps35
  go_wp2_with (first
   | (go_at_call 43; refine (manner_zero _).mono ?_; rintro en w1 ⟨rfl, hb1⟩; obtain ⟨D1, rfl⟩ := gr_of_below hb1; clear hb1)
   | (go_at_call 50; refine (honest_any _ _ _ _ (fun v w' => v = .int .i64 r ∧ (∃ f2, AccIn D A kind na np ca cp w' f2 (w.heap.size + 1) lA ln lc ∧ Q w' f2) ∧ w'.heap[w.heap.size]? = some (.cells #[.int .i64 0, .int .i64 0, .int .i64 0] 27 (0, 0))) ((HDO.out _ (w.heap.size + 1) (HPRE.out _ (by (repeat (first | exact Below.refl _ _ | refine bg_al ?_ | refine bg_gr ?_ | refine bg_drn ?_ | refine bg_dr ?_ | assumption)))).1 (by omega) (HPRE.out _ (by (repeat (first | exact Below.refl _ _ | refine bg_al ?_ | refine bg_gr ?_ | refine bg_drn ?_ | refine bg_dr ?_ | assumption)))).2.1 (HPRE.out _ (by (repeat (first | exact Below.refl _ _ | refine bg_al ?_ | refine bg_gr ?_ | refine bg_drn ?_ | refine bg_dr ?_ | assumption)))).2.2.1).mono (fun e w' h => by obtain ⟨f2, h1, h2, h3, h4⟩ := h; exact ⟨r, h1, rfl, ⟨f2, h2, h3⟩, (h4 _ (Nat.le_refl _) (by omega) (HPRE.out _ (by (repeat (first | exact Below.refl _ _ | refine bg_al ?_ | refine bg_gr ?_ | refine bg_drn ?_ | refine bg_dr ?_ | assumption)))).2.2.2.2).trans (HPRE.out _ (by (repeat (first | exact Below.refl _ _ | refine bg_al ?_ | refine bg_gr ?_ | refine bg_drn ?_ | refine bg_dr ?_ | assumption)))).2.2.2.1⟩))).mono ?_; rintro en w2 ⟨r', rfl, hr', ⟨f2, hacc, hQ⟩, hch2⟩; injection hr' with _ hr'; subst hr'; have HACC := Lib.hid hacc; have HQ := Lib.hid hQ; have HC2 := Lib.hid hch2; clear hacc hQ hch2)
   | (go_at_call 44; refine (HCH.out _ _ _ HACC.out HQ.out).mono ?_; rintro en w3 ⟨rfl, hb3⟩; have HB3 := Lib.hid hb3; clear hb3))
  obtain ⟨aA, ac, ha, hra⟩ := HACC.out.racc
  have hd3 := dev_bel HACC.out.dev HB3.out
  obtain ⟨-, -, -, -, -, -, -, j39, -, -, -, -⟩ := dev_c hd3
  rw [ha] at j39 hra
  have jf39 := dev_fr hd3 39
  have hra3 := own_below hra HB3.out
  have HRA := Lib.hid hra3
  have hk2 := HACC.out.kind
  have j0 : w3.cell? ⟨A, 0, none⟩ = some (.int .i64 kind) := by rw [HB3.out.cell (p := ⟨A, 0, none⟩) (World.block_lt_of_cell? _ _ hk2)]; exact hk2
  have hc3' := (HB3.out.block _ (Array.getElem?_eq_some_iff.1 HC2.out).1).trans HC2.out
  have jc : w3.cell? ⟨w.heap.size, 0, none⟩ = some (.int .i64 0) := by rw [cell_of_row _ _ _ _ _ _ hc3']; rfl
  have x0 : D < w3.heap.size := World.block_lt_of_cell? _ _ j39
  have x1 : A < w3.heap.size := World.block_lt_of_cell? _ _ j0
  have x2 : w.heap.size < w3.heap.size := World.block_lt_of_cell? _ _ jc
  have HD3 := Lib.hid hd3
  have HHA := Lib.hid ha
  obtain ⟨pA, pc, hpa, hrp⟩ := HACC.out.rpast
  have HHP := Lib.hid hpa
  have HRP := Lib.hid (own_below hrp HB3.out)
  clear ha hra hd3 hra3 hk2 hc3' hpa hrp
  go_region_law (first | (refine step_ap accessesT (by rfl) (by rfl) (by rfl) (own_below HRA.out (show Below w3.heap.size w3 _ by (repeat (first | exact Below.refl _ _ | refine bg_al ?_ | refine bg_gr ?_ | refine bg_drn ?_ | refine bg_dr ?_ | assumption)))) (by rfl) (Src.block (m := 1) (heap_alloc_last _ _) (by rfl)) (by simp [Value.oneCell']) (by have := HN1.out; simp only [maxLen]; omega) (by have := HN1.out; omega) (Nat.zero_le _) ?_; intro v9 w9 hap; have HAP := Lib.hid hap; have hd9 := ap_dev hap (own_below HRA.out (show Below w3.heap.size w3 _ by (repeat (first | exact Below.refl _ _ | refine bg_al ?_ | refine bg_gr ?_ | refine bg_drn ?_ | refine bg_dr ?_ | assumption)))) (by decide) (dev_bel HD3.out (show Below w3.heap.size w3 _ by (repeat (first | exact Below.refl _ _ | refine bg_al ?_ | refine bg_gr ?_ | refine bg_drn ?_ | refine bg_dr ?_ | assumption)))); have HD9 := Lib.hid hd9; obtain ⟨-, -, -, -, -, -, -, i39, -, -, -, -⟩ := dev_c hd9; have if39 := dev_fr hd9 39; obtain ⟨g9, c9, rfl, hc9, hm9, hb9, hlt9⟩ := own_form hap.1 (by omega); clear hap hd9))
  all_goals go_wp2_with fail
  all_goals go_ret
  all_goals exact ⟨rfl, acc_fin (pv := f2.past) (np' := np) (cp' := cp) HQ.out HACC.out.dev HD3.out HHA.out HRA.out HRP.out rfl rfl (Below.chg _ HB3.out) HAP.out (Or.inl rfl)⟩

end Go.Proofs.Ytcbglojjbgenlaa
