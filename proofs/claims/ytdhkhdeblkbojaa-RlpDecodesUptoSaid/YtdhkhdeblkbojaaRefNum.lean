/- Both Numbers; marked. -/
import Derived.Test.YtdhkhdeblkbojaaRefInt2
set_option linter.unusedSimpArgs false
namespace Go.Proofs.Ytdhkhdeblkbojaa
open Go.RowKit
attribute [local go_sem ↓] Go.wp_at_zero Go.wp_at_succ
attribute [local go_sem] size_gr cell_gr frozen_gr setCell_gr gr_drew gr_drewN lt_k lt_kc le_k le_kc sub_kc

def numR (n : Int) : List UInt8 × Int := if n < 0 then ([], 2) else (beB n.toNat, 0)

set_option maxRecDepth 100000 in
set_option maxHeartbeats 2000000 in
theorem rnum_any (n : Int) (h0 : -9223372036854775808 ≤ n) (h1 : n ≤ 9223372036854775807) (w : World) : Calls Try.prog 36 #[.int .i64 n] w fun e w' => ∃ v, e = .returned (.tuple #[.agg #[.bool false, v, .slice none 0 0], .int .i64 (numR n).2]) ∧ OwnB w' w.heap.size v (numR n).1 ∧ Below w.heap.size w w' := by
  by_cases hn : n < 0
  · rw [show numR n = ([], 2) from if_pos hn]
    go_enter Try.func36, Try.ntmps36
    go_wp2_with fail
    first
    | (go_ret2; exact ⟨_, rfl, OwnB.nil _ _, by (repeat (first | exact Below.refl _ _ | refine bg_al ?_ | refine bg_gr ?_ | refine bg_drn ?_ | refine bg_dr ?_ | assumption))⟩)
    | (refine bodyPost_ret (v := .tuple #[.agg #[.bool false, .slice none 0 0, .slice none 0 0], .int .i64 2]) (by simp [results, Try.results36, go_sem]) rfl ⟨_, rfl, OwnB.nil _ _, by (repeat (first | exact Below.refl _ _ | refine bg_al ?_ | refine bg_gr ?_ | refine bg_drn ?_ | refine bg_dr ?_ | assumption))⟩)
  · rw [show numR n = (beB n.toNat, 0) from if_neg hn]
    obtain ⟨m, rfl⟩ := Int.eq_ofNat_of_zero_le (by omega : 0 ≤ n)
    rw [Int.toNat_natCast]
    have hm : m < 9223372036854775808 := by omega
    go_enter Try.func36, Try.ntmps36
    go_wp2_with fail
    refine (rshort_any m hm _).mono ?_
    rintro en w9 ⟨v, rfl, ho, hb⟩; obtain ⟨D, rfl⟩ := gr_of_below hb; clear hb
    obtain ⟨A, c, rfl, -⟩ := ho.form
    have HO := Lib.hid (ownB_at ho)
    clear ho
    go_wp2_with fail
    refine bodyPost_ret (v := .tuple #[.agg #[.bool false, .slice A (beB m).length c, .slice none 0 0], .int .i64 0]) (by simp [results, Try.results36, go_sem]) rfl ⟨_, rfl, (HO.out _ (by (repeat (first | (refine at_base ?_; simp only [World.size_alloc, size_gr, World.size_setCell, World.size_drew]; done) | (refine at_base ?_; rfl) | refine at_al ?_ | refine at_gr ?_ | refine at_drn ?_ | refine at_dr ?_ | assumption)))).mono (by simp), by (repeat (first | exact Below.refl _ _ | refine bg_al ?_ | refine bg_gr ?_ | refine bg_drn ?_ | refine bg_dr ?_ | assumption))⟩
set_option maxRecDepth 100000 in
set_option maxHeartbeats 2000000 in
theorem inum_any (n : Int) (h0 : -9223372036854775808 ≤ n) (h1 : n ≤ 9223372036854775807) (w : World) : Calls Try.prog 38 #[.int .i64 n] w fun e w' => ∃ v, e = .returned (.tuple #[.agg #[.bool false, v, .slice none 0 0], .int .i64 (numR n).2]) ∧ OwnB w' w.heap.size v (numR n).1 ∧ Below w.heap.size w w' := by
  by_cases hn : n < 0
  · rw [show numR n = ([], 2) from if_pos hn]
    go_enter Try.func38, Try.ntmps38
    go_wp2_with fail
    first
    | (go_ret2; exact ⟨_, rfl, OwnB.nil _ _, by (repeat (first | exact Below.refl _ _ | refine bg_al ?_ | refine bg_gr ?_ | refine bg_drn ?_ | refine bg_dr ?_ | assumption))⟩)
    | (refine bodyPost_ret (v := .tuple #[.agg #[.bool false, .slice none 0 0, .slice none 0 0], .int .i64 2]) (by simp [results, Try.results38, go_sem]) rfl ⟨_, rfl, OwnB.nil _ _, by (repeat (first | exact Below.refl _ _ | refine bg_al ?_ | refine bg_gr ?_ | refine bg_drn ?_ | refine bg_dr ?_ | assumption))⟩)
  · rw [show numR n = (beB n.toNat, 0) from if_neg hn]
    obtain ⟨m, rfl⟩ := Int.eq_ofNat_of_zero_le (by omega : 0 ≤ n)
    rw [Int.toNat_natCast]
    have hm : m < 9223372036854775808 := by omega
    go_enter Try.func38, Try.ntmps38
    go_wp2_with fail
    refine (shortest_any m (by omega) _).mono ?_
    rintro en w9 ⟨v, rfl, ho, hb⟩; obtain ⟨D, rfl⟩ := gr_of_below hb; clear hb
    obtain ⟨A, c, rfl, -⟩ := ho.form
    have HO := Lib.hid (ownB_at ho)
    clear ho
    go_wp2_with fail
    refine bodyPost_ret (v := .tuple #[.agg #[.bool false, .slice A (beB m).length c, .slice none 0 0], .int .i64 0]) (by simp [results, Try.results38, go_sem]) rfl ⟨_, rfl, (HO.out _ (by (repeat (first | (refine at_base ?_; simp only [World.size_alloc, size_gr, World.size_setCell, World.size_drew]; done) | (refine at_base ?_; rfl) | refine at_al ?_ | refine at_gr ?_ | refine at_drn ?_ | refine at_dr ?_ | assumption)))).mono (by simp), by (repeat (first | exact Below.refl _ _ | refine bg_al ?_ | refine bg_gr ?_ | refine bg_drn ?_ | refine bg_dr ?_ | assumption))⟩

set_option maxRecDepth 100000 in
set_option maxHeartbeats 2000000 in
theorem marked_any {w : World} {T : Nat → Prop} {v0 v1 v2 : Value} {x : It} {sv : List Value} (h : RdI w T v0 v1 v2 x sv) :
    ∀ (w' : World), Below w.heap.size w w' → (∀ v ∈ sv, Marked w v) → Calls Try.prog 39 #[.agg #[v0, v1, v2]] w' fun e w'' => e = .returned (.bool true) ∧ Below w'.heap.size w' w'' := by
  induction h with
  | mk l v1 bs A c E h1 h1' h2 h3 h4 h4' h5 h6 ih =>
    intro w' hbel hmk
    obtain ⟨g1, n1, c1, rfl, hn1, hc1⟩ := hmk v1 (by simp)
    obtain ⟨A1, c1', e1, -, -, hm1, -⟩ := h1
    injection e1 with e1 e2 e3
    subst e1 e2 e3
    have hg1 := World.block_lt_of_cell? w _ hc1
    have hc1' := cell_later hbel hc1
    have hg1' : g1 < w'.heap.size := Nat.lt_of_lt_of_le hg1 hbel.size
    have HE := Lib.hid (fun W i (hb : Below w.heap.size w W) hi => ent_full h5 h6 (i := i) hb hi)
    have HIh := Lib.hid ih
    have HB := Lib.hid hbel
    have HM := Lib.hid (fun (e : Ent) (he : e ∈ E) (v : Value) (hv : v ∈ e.sv) => hmk v (List.mem_cons_of_mem _ (List.mem_flatMap.2 ⟨e, he, hv⟩)))
    unfold maxLen at h3 hm1
    have hel : E.length ≤ 9223372036854775807 := by omega
    have hw1 : (bs.length : Int) + 1 ≤ (c1 : Int) := by omega
    clear ih hbel h5 h6 h4 h4' h1' hmk hc1 hg1
    go_enter Try.func39, Try.ntmps39
    go_wp2_with fail
    go_loopw [23] (fun v wr => ∃ i : Nat, i ≤ E.length ∧ v = .int .i64 i ∧ ∃ D, wr = w'.gr D) (fun v _ => E.length - (intOf v).toNat)
    case atStart => exact ⟨0, by omega, rfl, gr_of_below (by (repeat (first | exact Below.refl _ _ | refine bg_al ?_ | refine bg_gr ?_ | refine bg_drn ?_ | refine bg_dr ?_ | assumption)))⟩
    case round =>
      obtain ⟨i, hi, rfl, D, rfl⟩ := hrel
      by_cases hi1 : i < E.length
      · obtain ⟨b, off, l2, A5, n5, c5, A6, n6, c6, rfl, e0, e1, e2, f0, f1, f2, hbw⟩ := HE.out (w'.gr D) i (bel_trans HB.out (by (repeat (first | exact Below.refl _ _ | refine bg_al ?_ | refine bg_gr ?_ | refine bg_drn ?_ | refine bg_dr ?_ | assumption)))) hi1
        have h1i : (i : Int) < (E.length : Int) := by omega
        have hi0 : (0 : Int) ≤ (i : Int) := by omega
        have hc := HIh.out E[i] (List.getElem_mem _)
        have hm := HM.out E[i] (List.getElem_mem _)
        rw [f0, f1, f2] at hc
        have HC := Lib.hid hc
        have HMM := Lib.hid hm
        clear f0 f1 f2 hc hm
        go_wp2_with fail
        refine (HC.out _ (bel_trans HB.out (by (repeat (first | exact Below.refl _ _ | refine bg_al ?_ | refine bg_gr ?_ | refine bg_drn ?_ | refine bg_dr ?_ | assumption)))) HMM.out).mono ?_
        rintro en w9 ⟨rfl, hb⟩; obtain ⟨D2, rfl⟩ := gr_of_below hb; clear hb
        go_wp2_with fail
        exact ⟨⟨i + 1, by omega, by go_num, gr_of_below (by (repeat (first | exact Below.refl _ _ | refine bg_al ?_ | refine bg_gr ?_ | refine bg_drn ?_ | refine bg_dr ?_ | assumption)))⟩, by simp [intOf]; omega⟩
      · obtain rfl : i = E.length := by omega
        have h1i : ¬ (E.length : Int) < (E.length : Int) := by omega
        go_wp2_with fail
        go_ret
        exact ⟨rfl, by (repeat (first | exact Below.refl _ _ | refine bg_al ?_ | refine bg_gr ?_ | refine bg_drn ?_ | refine bg_dr ?_ | assumption))⟩
end Go.Proofs.Ytdhkhdeblkbojaa
