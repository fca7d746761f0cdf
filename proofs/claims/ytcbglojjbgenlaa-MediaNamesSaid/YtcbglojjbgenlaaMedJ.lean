/- slices.Grow, slices.Concat of two. -/
import Derived.Test.YtcbglojjbgenlaaMedB
import Derived.Lib.AppendZeros
import Derived.Deep.WholeRow
namespace Go.Proofs.Ytcbglojjbgenlaa
open Go.RowKit
set_option linter.unusedSimpArgs false
set_option linter.unusedVariables false
attribute [local go_sem] size_gr cell_gr frozen_gr setCell_gr gr_drew gr_drewN lt_k lt_kc le_k le_kc sub_kc nil29 nil28 nil49
attribute [local go_sem ↓] Go.wp_at_zero Go.wp_at_succ

set_option maxRecDepth 4000 in
theorem grow_nil (n : Nat) (w : World) (hn : n ≤ 1099511627776) :
    Calls Try.prog 82 #[.slice none 0 0, .int .i64 n] w fun e w' => ∃ A c, e = .returned (.slice A 0 c) ∧ OwnB w' w.heap.size (.slice A 0 c) [] ∧ Below w.heap.size w w' := by
  by_cases h0 : n = 0
  · subst h0
    clear hn
    go_enter Try.func82, Try.ntmps82
    go_wp2
    go_ret
    exact ⟨_, _, rfl, OwnB.nil _ _, by (repeat (first | exact Below.refl _ _ | refine bg_al ?_ | refine bg_gr ?_ | refine bg_drn ?_ | refine bg_dr ?_ | assumption))⟩
  · have hpos : (0 : Int) < (n : Int) := by omega
    have hng : ¬ (n : Int) < 0 := by omega
    have hw1 : IntKind.i64.wrap (n : Int) = (n : Int) := IntWalk.i64_in _ (by omega)
    obtain ⟨i, hi, hz, hs, hby⟩ := info_parts bytesT.info
    have HZ := Lib.hid (show (Value.int .u8 0).cells.size = 1 from rfl)
    have hr := Go.Lib.run_append_nil_zeros (P := Try.prog) w 29 3 29 5 i (.int .u8 0) .i64 .i64 Try.underlying29 Try.underlying3 hi hz n (by omega) (by rw [hs]; omega) (by omega) (by rw [hby]; omega)
    have hge := grownCap_ge w n 0 5
    have hcm := grownCap_le_maxLen w n 0 5 (by unfold maxLen; omega)
    have HR := Lib.hid hr
    have HGE := Lib.hid hge
    have HCM := Lib.hid hcm
    have HN := Lib.hid hn
    clear hr hge hcm hn h0 hi hz hs hby
    go_enter Try.func82, Try.ntmps82
    go_wp2_with (at_builtin; refine Go.Lib.wpList_append_run _ rfl _ _ _ _ rfl _ _ rfl rfl _ _ HR.out ?_)
    go_ret
    refine ⟨_, _, rfl, ⟨by simp, .inr ⟨w.heap.size, _, _, rfl, Nat.le_refl _, heap_alloc_last w.drew _, Nat.zero_le _, HCM.out, ?_, by simp⟩⟩, by (repeat (first | exact Below.refl _ _ | refine bg_al ?_ | refine bg_gr ?_ | refine bg_drn ?_ | refine bg_dr ?_ | assumption))⟩
    have := HGE.out
    simp only [Array.size_append, size_zeroCells, List.size_toArray, List.length_cons, List.length_nil]
    omega

theorem own0 {w : World} {base : Nat} {A : Option Addr} {c : Nat} (h : OwnB w base (.slice A 0 c) []) : w.ownsRow base 5 1 (.slice A 0 c) 0 [] := h

set_option maxRecDepth 4000 in
theorem concat_two (G : Nat) (va vb : Value) (la lb : List UInt8) (w : World) (h0 : w.cell? ⟨G, 0, none⟩ = some va) (h1 : w.cell? ⟨G, 1, none⟩ = some vb) (ha : SB w va la) (hb : SB w vb lb) (hn : la.length + lb.length ≤ 1099511627776) :
    Calls Try.prog 76 #[.slice (some ⟨G, 0, none⟩) 2 2] w fun e w' => ∃ A c, e = .returned (.slice A (la.length + lb.length) c) ∧ OwnB w' w.heap.size (.slice A (la.length + lb.length) c) (la ++ lb) ∧ Below w.heap.size w w' := by
  have HA := Lib.hid ha
  have HB := Lib.hid hb
  obtain ⟨Aa, ca, rfl, -⟩ := ha
  obtain ⟨Ab, cb, rfl, -⟩ := hb
  have hG : G < w.heap.size := World.block_lt_of_cell? w _ h0
  have HN := Lib.hid hn
  have hw0 : IntKind.i64.wrap (la.length : Int) = (la.length : Int) := IntWalk.i64_in _ (by omega)
  have hw1 : IntKind.i64.wrap ((la.length : Int) + (lb.length : Int)) = (la.length : Int) + (lb.length : Int) := IntWalk.i64_in _ (by omega)
  have hp0 : ¬ (la.length : Int) < 0 := by omega
  have hp1 : ¬ (la.length : Int) + (lb.length : Int) < 0 := by omega
  clear hn
  go_enter Try.func76, Try.ntmps76
  go_wp2_with fail
  refine wp_loop_rounds 3 ?_
  rw [rounds_succ]
  go_wp2
  rw [rounds_succ]
  go_wp2
  rw [rounds_succ]
  go_wp2_with (go_at_call 82; refine (grow_nil (la.length + lb.length) _ HN.out).mono ?_; rintro en w1 ⟨A1, c1, rfl, ho1, hb1⟩; obtain ⟨D1, rfl⟩ := gr_of_below hb1; clear hb1; have HO1 := Lib.hid ho1; clear ho1)
  refine wp_loop_rounds 3 ?_
  rw [rounds_succ]
  go_wp2_with (at_builtin; refine ap_own [] la la la.length rfl rfl rfl rfl rfl rfl HO1.out rfl (HA.out.below (by (repeat (first | exact Below.refl _ _ | refine bg_al ?_ | refine bg_gr ?_ | refine bg_drn ?_ | refine bg_dr ?_ | assumption)))) (by have := HN.out; simp; omega) ?_; intro D2 A2 c2 ho2 hc2 hm2; have HO2 := Lib.hid ho2; clear ho2)
  rw [rounds_succ]
  go_wp2_with (at_builtin; refine ap_own la lb (la ++ lb) (la.length + lb.length) rfl (by simp) rfl rfl rfl rfl (HO2.out _ (by (repeat (first | (refine at_base ?_; simp only [World.size_alloc, size_gr, World.size_setCell, World.size_drew]; done) | (refine at_base ?_; rfl) | refine at_al ?_ | refine at_gr ?_ | refine at_drn ?_ | refine at_dr ?_ | assumption)))) rfl (HB.out.below (by (repeat (first | exact Below.refl _ _ | refine bg_al ?_ | refine bg_gr ?_ | refine bg_drn ?_ | refine bg_dr ?_ | assumption)))) (by have := HN.out; omega) ?_; intro D3 A3 c3 ho3 hc3 hm3; have HO3 := Lib.hid ho3; clear ho3)
  rw [rounds_succ]
  go_wp2
  go_ret
  exact ⟨_, _, rfl, HO3.out _ (by (repeat (first | (refine at_base ?_; simp only [World.size_alloc, size_gr, World.size_setCell, World.size_drew]; done) | (refine at_base ?_; rfl) | refine at_al ?_ | refine at_gr ?_ | refine at_drn ?_ | refine at_dr ?_ | assumption))), by (repeat (first | exact Below.refl _ _ | refine bg_al ?_ | refine bg_gr ?_ | refine bg_drn ?_ | refine bg_dr ?_ | assumption))⟩
end Go.Proofs.Ytcbglojjbgenlaa
