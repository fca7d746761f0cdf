/- The document's answer for the form: Deep, May, short, head, form, Encode. -/
import Derived.Test.YtdhkhdeblkbojaaGrowRlp
set_option linter.unusedSimpArgs false
namespace Go.Proofs.Ytdhkhdeblkbojaa
open Go.RowKit
attribute [local go_sem ↓] Go.wp_at_zero Go.wp_at_succ
attribute [local go_sem] size_gr cell_gr frozen_gr setCell_gr gr_drew gr_drewN lt_k lt_kc le_k le_kc sub_kc

/-- the cells of item number i, in a later world -/
theorem ent_full {w W : World} {T : Nat → Prop} {A : Option Addr} {c : Nat} {E : List Ent} (h5 : Src w 3 (.slice A E.length c) E.length (E.flatMap Ent.cells)) (h6 : ∀ e ∈ E, RdI w T e.v0 e.v1 e.v2 e.x e.sv) (hb : Below w.heap.size w W) {i : Nat} (hi : i < E.length) :
    ∃ b off l A1 n1 c1 A2 n2 c2, A = some ⟨b, off, none⟩ ∧ W.cell? ⟨b, off + i * 3, none⟩ = some (.bool l) ∧ W.cell? ⟨b, off + i * 3 + 1, none⟩ = some (.slice A1 n1 c1) ∧ W.cell? ⟨b, off + i * 3 + 2, none⟩ = some (.slice A2 n2 c2) ∧ E[i].v0 = .bool l ∧ E[i].v1 = .slice A1 n1 c1 ∧ E[i].v2 = .slice A2 n2 c2 ∧ b < W.heap.size := by
  obtain ⟨b, off, rfl, e0, e1, e2⟩ := ent_cell (h5.below hb) hi
  obtain ⟨l, A1, n1, c1, A2, n2, c2, f0, f1, f2⟩ := (h6 E[i] (List.getElem_mem _)).form
  rw [f0] at e0
  rw [f1] at e1
  rw [f2] at e2
  exact ⟨b, off, l, A1, n1, c1, A2, n2, c2, rfl, e0, e1, e2, f0, f1, f2, World.block_lt_of_cell? W _ e0⟩

mutual
def deepR : It → Nat → Nat
  | .mk l _ xs, n => if l = false ∨ 80 < n then n else deepRL xs (n + 1) (n + 1)
def deepRL : List It → Nat → Nat → Nat
  | [], _, m => m
  | x :: r, n, m => deepRL r n (max m (deepR x n))
end

set_option maxRecDepth 100000 in
set_option maxHeartbeats 2000000 in
theorem rdeep_any {w : World} {T : Nat → Prop} {v0 v1 v2 : Value} {x : It} {sv : List Value} (h : RdI w T v0 v1 v2 x sv) :
    ∀ (w' : World) (m : Nat), Below w.heap.size w w' → m ≤ 81 → Calls Try.prog 62 #[.agg #[v0, v1, v2], .int .i64 (m : Int)] w' fun e w'' => e = .returned (.int .i64 (deepR x m)) ∧ Below w'.heap.size w' w'' := by
  induction h with
  | mk l v1 bs A c E h1 h1' h2 h3 h4 h4' h5 h6 ih =>
    intro w' m hbel hm
    obtain ⟨A1, c1, rfl, -⟩ := h1
    have HE := Lib.hid (fun W i (hb : Below w.heap.size w W) hi => ent_full h5 h6 (i := i) hb hi)
    have HIh := Lib.hid ih
    have HB := Lib.hid hbel
    unfold maxLen at h3
    have hel : E.length ≤ 9223372036854775807 := by omega
    clear ih hbel h5 h6 h4 h4' h1'
    by_cases h0 : l = false ∨ 80 < m
    · have hfin : Hid (deepR (.mk l bs (E.map (·.x))) m = m) := by show _ = _; rw [deepR, if_pos h0]
      cases l with
      | false =>
        clear h0
        go_enter Try.func62, Try.ntmps62
        go_wp2_with fail
        go_ret
        rw [hfin.out]
        exact ⟨rfl, by (repeat (first | exact Below.refl _ _ | refine bg_al ?_ | refine bg_gr ?_ | refine bg_drn ?_ | refine bg_dr ?_ | assumption))⟩
      | true =>
        have hm' : (80 : Int) < m := by simp at h0; omega
        clear h0
        go_enter Try.func62, Try.ntmps62
        go_wp2_with fail
        go_ret
        rw [hfin.out]
        exact ⟨rfl, by (repeat (first | exact Below.refl _ _ | refine bg_al ?_ | refine bg_gr ?_ | refine bg_drn ?_ | refine bg_dr ?_ | assumption))⟩
    · obtain rfl : l = true := by cases l <;> simp_all
      have hm' : ¬ (80 : Int) < m := by simp at h0; omega
      have hfin : Hid (deepR (.mk true bs (E.map (·.x))) m = deepRL (E.map (·.x)) (m + 1) (m + 1)) := by show _ = _; rw [deepR, if_neg h0]
      clear h0
      go_enter Try.func62, Try.ntmps62
      go_wp2_with fail
      go_loopw [5, 21] (fun v5 v wr => ∃ (i q : Nat), i ≤ E.length ∧ v = .int .i64 i ∧ v5 = .int .i64 q ∧ deepRL (E.map (·.x)) (m + 1) (m + 1) = deepRL ((E.drop i).map (·.x)) (m + 1) q ∧ ∃ D, wr = w'.gr D) (fun _ v _ => E.length - (intOf v).toNat)
      case atStart => exact ⟨0, m + 1, by omega, rfl, by go_num, by simp, gr_of_below (by (repeat (first | exact Below.refl _ _ | refine bg_al ?_ | refine bg_gr ?_ | refine bg_drn ?_ | refine bg_dr ?_ | assumption)))⟩
      case round =>
        obtain ⟨i, q, hi, rfl, rfl, hq, D, rfl⟩ := hrel
        by_cases hi1 : i < E.length
        · obtain ⟨b, off, l2, A5, n5, c5, A6, n6, c6, rfl, e0, e1, e2, f0, f1, f2, hbw⟩ := HE.out (w'.gr D) i (bel_trans HB.out (by (repeat (first | exact Below.refl _ _ | refine bg_al ?_ | refine bg_gr ?_ | refine bg_drn ?_ | refine bg_dr ?_ | assumption)))) hi1
          have h1i : (i : Int) < (E.length : Int) := by omega
          have hi0 : (0 : Int) ≤ (i : Int) := by omega
          rw [drop_map hi1, deepRL] at hq
          have HQ := Lib.hid hq
          have hc := HIh.out E[i] (List.getElem_mem _)
          rw [f0, f1, f2] at hc
          have HC := Lib.hid hc
          clear hq f0 f1 f2 hc
          go_wp2_with fail
          refine (HC.out _ (m + 1) (bel_trans HB.out (by (repeat (first | exact Below.refl _ _ | refine bg_al ?_ | refine bg_gr ?_ | refine bg_drn ?_ | refine bg_dr ?_ | assumption)))) (by omega)).mono ?_
          rintro en w9 ⟨rfl, hb⟩; obtain ⟨D2, rfl⟩ := gr_of_below hb; clear hb
          go_wp2_with fail
          exact ⟨⟨i + 1, _, by omega, by go_num, by go_num, HQ.out, gr_of_below (by (repeat (first | exact Below.refl _ _ | refine bg_al ?_ | refine bg_gr ?_ | refine bg_drn ?_ | refine bg_dr ?_ | assumption)))⟩, by simp [intOf]; omega⟩
        · obtain rfl : i = E.length := by omega
          have h1i : ¬ (E.length : Int) < (E.length : Int) := by omega
          have hfin2 : Hid (deepR (.mk true bs (E.map (·.x))) m = q) := by show _ = _; rw [hfin.out, hq]; simp [deepRL]
          clear hq
          go_wp2_with fail
          go_ret
          rw [hfin2.out]
          exact ⟨rfl, by (repeat (first | exact Below.refl _ _ | refine bg_al ?_ | refine bg_gr ?_ | refine bg_drn ?_ | refine bg_dr ?_ | assumption))⟩
set_option maxRecDepth 100000 in
set_option maxHeartbeats 2000000 in
theorem rmay_any {w : World} {T : Nat → Prop} {v0 v1 v2 : Value} {x : It} {sv : List Value} (h : RdI w T v0 v1 v2 x sv) :
    ∀ (w' : World), Below w.heap.size w w' → Calls Try.prog 63 #[.agg #[v0, v1, v2]] w' fun e w'' => e = .returned (.bool (mayI x)) ∧ Below w'.heap.size w' w'' := by
  induction h with
  | mk l v1 bs A c E h1 h1' h2 h3 h4 h4' h5 h6 ih =>
    intro w' hbel
    obtain ⟨A1, c1, rfl, -⟩ := h1
    have HE := Lib.hid (fun W i (hb : Below w.heap.size w W) hi => ent_full h5 h6 (i := i) hb hi)
    have HIh := Lib.hid ih
    have HB := Lib.hid hbel
    unfold maxLen at h3
    have hel : E.length ≤ 9223372036854775807 := by omega
    clear ih hbel h5 h6 h4 h4' h1'
    cases l with
    | false =>
      have hfin : Hid (mayI (.mk false bs (E.map (·.x))) = ((E.length : Int) == 0)) := by show _ = _; rw [mayI]; simp
      go_enter Try.func63, Try.ntmps63
      go_wp2_with fail
      go_ret
      rw [hfin.out]
      exact ⟨rfl, by (repeat (first | exact Below.refl _ _ | refine bg_al ?_ | refine bg_gr ?_ | refine bg_drn ?_ | refine bg_dr ?_ | assumption))⟩
    | true =>
      have hfin : Hid (mayI (.mk true bs (E.map (·.x))) = (mayL (E.map (·.x)) && ((bs.length : Int) == 0))) := by show _ = _; rw [mayI]; rfl
      go_enter Try.func63, Try.ntmps63
      go_wp2_with fail
      go_loopw [15] (fun v wr => ∃ i : Nat, i ≤ E.length ∧ v = .int .i64 i ∧ mayL (E.map (·.x)) = mayL ((E.drop i).map (·.x)) ∧ ∃ D, wr = (w'.alloc (.cells #[.bool true, .slice A1 bs.length c1, .slice A E.length c] 42)).gr D) (fun v _ => E.length - (intOf v).toNat)
      case atStart => exact ⟨0, by omega, rfl, by simp, _, (gr_nil _).symm⟩
      case round =>
        obtain ⟨i, hi, rfl, hq, D, rfl⟩ := hrel
        by_cases hi1 : i < E.length
        · obtain ⟨b, off, l2, A5, n5, c5, A6, n6, c6, rfl, e0, e1, e2, f0, f1, f2, hbw⟩ := HE.out w' i HB.out hi1
          have h1i : (i : Int) < (E.length : Int) := by omega
          have hi0 : (0 : Int) ≤ (i : Int) := by omega
          rw [drop_map hi1, mayL] at hq
          have HQ := Lib.hid hq
          have hc := HIh.out E[i] (List.getElem_mem _)
          rw [f0, f1, f2] at hc
          have HC := Lib.hid hc
          clear hq f0 f1 f2 hc
          go_wp2_with fail
          refine (HC.out _ (bel_trans HB.out (by (repeat (first | exact Below.refl _ _ | refine bg_al ?_ | refine bg_gr ?_ | refine bg_drn ?_ | refine bg_dr ?_ | assumption))))).mono ?_
          rintro en w9 ⟨rfl, hb⟩; obtain ⟨D2, rfl⟩ := gr_of_below hb; clear hb
          cases hm : mayI E[i].x with
          | true =>
            rw [hm] at HQ
            clear hm
            go_wp2_with fail
            exact ⟨⟨i + 1, by omega, by go_num, HQ.out, gr_of_below (by (repeat (first | exact Below.refl _ _ | refine bg_al ?_ | refine bg_gr ?_ | refine bg_drn ?_ | refine bg_dr ?_ | assumption)))⟩, by simp [intOf]; omega⟩
          | false =>
            rw [hm] at HQ
            have hfin2 : Hid (mayI (.mk true bs (E.map (·.x))) = false) := by show _ = _; rw [hfin.out, HQ.out]; rfl
            clear hm
            go_wp2_with fail
            go_ret
            rw [hfin2.out]
            exact ⟨rfl, by (repeat (first | exact Below.refl _ _ | refine bg_al ?_ | refine bg_gr ?_ | refine bg_drn ?_ | refine bg_dr ?_ | assumption))⟩
        · obtain rfl : i = E.length := by omega
          have h1i : ¬ (E.length : Int) < (E.length : Int) := by omega
          have hfin2 : Hid (mayI (.mk true bs (E.map (·.x))) = ((bs.length : Int) == 0)) := by show _ = _; rw [hfin.out, hq]; simp [mayL]
          clear hq
          go_wp2_with fail
          go_ret
          rw [hfin2.out]
          exact ⟨rfl, by (repeat (first | exact Below.refl _ _ | refine bg_al ?_ | refine bg_gr ?_ | refine bg_drn ?_ | refine bg_dr ?_ | assumption))⟩
end Go.Proofs.Ytdhkhdeblkbojaa
