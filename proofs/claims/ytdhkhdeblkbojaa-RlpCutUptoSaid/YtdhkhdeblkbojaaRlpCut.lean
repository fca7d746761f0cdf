/- The walk of cairnlaw05.RlpCut. -/
import Derived.Test.YtdhkhdeblkbojaaGrowRlp
import Derived.Test.YtdhkhdeblkbojaaRlpLaw6
set_option linter.unusedSimpArgs false
namespace Go.Proofs.Ytdhkhdeblkbojaa
open Go.RowKit
attribute [local go_sem ↓] Go.wp_at_zero Go.wp_at_succ
attribute [local go_sem] size_gr cell_gr frozen_gr setCell_gr gr_drew gr_drewN lt_k lt_kc le_k le_kc sub_kc

theorem SB.take {w : World} {A : Option Addr} {n c : Nat} {l : List UInt8} (h : SB w (.slice A n c) l) {k : Nat} (hk : k < l.length) : SB w (.slice A k c) (l.take k) := by
  obtain ⟨A', c', e, hr, h1, h2, h3⟩ := h
  injection e with e1 e2 e3
  subst e1 e2 e3
  exact ⟨_, _, by rw [List.length_take]; congr 1; omega, hr.take k, by rw [List.length_take]; omega, h2, h3⟩
set_option maxRecDepth 100000 in
set_option maxHeartbeats 4000000 in
theorem cut_walk {w : World} {T : Nat → Prop} {v0 v1 v2 u0 u1 u2 vt : Value} {x y : It} {sv tv : List Value} {t : List UInt8} (at_ : Int) (hx : RdI w T v0 v1 v2 x sv) (hy : RdI w T u0 u1 u2 y tv) (hwx : wtI x ≤ 16777216) (hwy : wtI y ≤ 16777216) (ht : SB w vt t) (hl : t.length ≤ 1048576) :
    Calls Try.prog 9 #[.agg #[v0, v1, v2, u0, u1, u2], .int .i64 at_, vt] w fun e w' => e = .returned (.bool true) ∧ Below w.heap.size w w' := by
  obtain ⟨l1, A1, n1, c1, A2, n2, c2, rfl, rfl, rfl⟩ := hx.form
  obtain ⟨l2, A3, n3, c3, A4, n4, c4, rfl, rfl, rfl⟩ := hy.form
  have HX := Lib.hid hx
  have HY := Lib.hid hy
  have HT := Lib.hid ht
  obtain ⟨A, ct, rfl, -⟩ := ht
  obtain ⟨fa, ea, hEx⟩ : ∃ fa ea, encR x = (fa, ea) := ⟨_, _, rfl⟩
  obtain ⟨fb, eb, hEy⟩ : ∃ fb eb, encR y = (fb, eb) := ⟨_, _, rfl⟩
  have HEx := Lib.hid hEx
  have HEy := Lib.hid hEy
  clear hx hy hEx hEy
  go_enter Try.func9, Try.ntmps9
  go_wp2_with fail
  refine (awake_any _).mono ?_
  rintro en w1 ⟨rfl, hb⟩; obtain ⟨D1, rfl⟩ := gr_of_below hb; clear hb
  go_wp2_with fail
  refine (item_any HX.out _ (by (repeat (first | exact Below.refl _ _ | refine bg_al ?_ | refine bg_gr ?_ | refine bg_drn ?_ | refine bg_dr ?_ | assumption))) (by omega)).mono ?_
  rintro en w1 ⟨p0, p1, p2, sv2, rfl, hit, -, -, hb⟩; obtain ⟨D2, rfl⟩ := gr_of_below hb; clear hb
  obtain ⟨l3, A5, n5, c5, A6, n6, c6, rfl, rfl, rfl⟩ := hit.form
  have HIT := Lib.hid hit; clear hit
  go_wp2_with fail
  refine (encode_eq HEx.out HIT.out (by omega)).mono ?_
  rintro en w1 ⟨va, rfl, ho, hb⟩; obtain ⟨D3, rfl⟩ := gr_of_below hb; clear hb
  have HA := Lib.hid (ownB_at ho)
  obtain ⟨Aa, ca, rfl, -, hca, hcm, -⟩ := ho.form
  unfold maxLen at hcm
  clear ho
  go_wp2_with fail
  refine (item_any HY.out _ (by (repeat (first | exact Below.refl _ _ | refine bg_al ?_ | refine bg_gr ?_ | refine bg_drn ?_ | refine bg_dr ?_ | assumption))) (by omega)).mono ?_
  rintro en w1 ⟨p0, p1, p2, sv2, rfl, hit, -, -, hb⟩; obtain ⟨D4, rfl⟩ := gr_of_below hb; clear hb
  obtain ⟨l3, A5, n5, c5, A6, n6, c6, rfl, rfl, rfl⟩ := hit.form
  have HIT := Lib.hid hit; clear hit
  go_wp2_with fail
  refine (encode_eq HEy.out HIT.out (by omega)).mono ?_
  rintro en w1 ⟨vb, rfl, ho, hb⟩; obtain ⟨D5, rfl⟩ := gr_of_below hb; clear hb
  have HB := Lib.hid (ownB_at ho)
  obtain ⟨Ab, cb, rfl, -⟩ := ho.form
  clear ho
  by_cases hea : ea = 0
  · subst hea
    by_cases heb : eb = 0
    · subst heb
      obtain ⟨hfx, hfp⟩ := (dec_enc (by omega) HEx.out).2
      obtain ⟨hfy, hfq⟩ := (dec_enc (by omega) HEy.out).2
      have hfa0 : ((fa.length : Int) == 0) = false := beq_eq_false_iff_ne.2 (by omega)
      have hfb0 : ((fb.length : Int) == 0) = false := beq_eq_false_iff_ne.2 (by omega)
      by_cases hle : fa.length + fb.length + t.length ≤ 1048576
      · have hle' : ¬ ((fa.length : Int) + (fb.length : Int) + (t.length : Int) > 1048576) := by omega
        obtain ⟨n, hn, hn2⟩ := mod_mod at_ hfp hfx
        have hna : n ≤ ca := by omega
        have hna' : (n : Int) ≤ (ca : Int) := by omega
        have hn3 : n < fa.length := by omega
        go_wp2_with fail
        refine (decode_bad (dec_cut (by omega) HEx.out hn3) (SB.take (HA.out _ (by (repeat (first | (refine at_base ?_; simp only [World.size_alloc, size_gr, World.size_setCell, World.size_drew]; done) | (refine at_base ?_; rfl) | refine at_al ?_ | refine at_gr ?_ | refine at_drn ?_ | refine at_dr ?_ | assumption)))).sb hn3) (by simp; omega)).mono ?_
        rintro en w1 ⟨rfl, hb⟩; obtain ⟨D6, rfl⟩ := gr_of_below hb; clear hb
        go_wp2_with (first
          | (at_builtin; (refine ap_own (fa ++ fb) t (fa ++ fb ++ t) (fa.length + fb.length + t.length) rfl (by simp; omega) rfl rfl rfl (by rfl) (ho9 _ (by (repeat (first | (refine at_base ?_; simp only [World.size_alloc, size_gr, World.size_setCell, World.size_drew]; done) | (refine at_base ?_; rfl) | refine at_al ?_ | refine at_gr ?_ | refine at_drn ?_ | refine at_dr ?_ | assumption)))) (by rfl) (HT.out.below (by (repeat (first | exact Below.refl _ _ | refine bg_al ?_ | refine bg_gr ?_ | refine bg_drn ?_ | refine bg_dr ?_ | assumption)))) (by simp; omega) ?_); intro D10 A10 c10 ho10 hc10 hm10)
          | (at_builtin; (refine ap_new [] (fa ++ fb) (fa ++ fb) (fa.length + fb.length) rfl (by simp) rfl rfl rfl rfl (by rfl) (by simp only [World.size_alloc, size_gr, World.size_setCell, World.size_drew]) rfl rfl rfl (by rfl) (ho8 _ (by (repeat (first | (refine at_base ?_; simp only [World.size_alloc, size_gr, World.size_setCell, World.size_drew]; done) | (refine at_base ?_; rfl) | refine at_al ?_ | refine at_gr ?_ | refine at_drn ?_ | refine at_dr ?_ | assumption)))).sb (by simp; omega) ?_); intro D9 A9 c9 ho9 hc9 hm9)
          | (at_builtin; (refine ap_own fa fb (fa ++ fb) (fa.length + fb.length) rfl (by simp) rfl rfl rfl (by rfl) (ho7 _ (by (repeat (first | (refine at_base ?_; simp only [World.size_alloc, size_gr, World.size_setCell, World.size_drew]; done) | (refine at_base ?_; rfl) | refine at_al ?_ | refine at_gr ?_ | refine at_drn ?_ | refine at_dr ?_ | assumption)))) (by rfl) (HB.out _ (by (repeat (first | (refine at_base ?_; simp only [World.size_alloc, size_gr, World.size_setCell, World.size_drew]; done) | (refine at_base ?_; rfl) | refine at_al ?_ | refine at_gr ?_ | refine at_drn ?_ | refine at_dr ?_ | assumption)))).sb (by omega) ?_); intro D8 A8 c8 ho8 hc8 hm8)
          | (at_builtin; (refine ap_new [] fa fa fa.length rfl rfl rfl rfl rfl rfl (by rfl) (by simp only [World.size_alloc, size_gr, World.size_setCell, World.size_drew]) rfl rfl rfl (by rfl) (HA.out _ (by (repeat (first | (refine at_base ?_; simp only [World.size_alloc, size_gr, World.size_setCell, World.size_drew]; done) | (refine at_base ?_; rfl) | refine at_al ?_ | refine at_gr ?_ | refine at_drn ?_ | refine at_dr ?_ | assumption)))).sb (by simp; omega) ?_); intro D7 A7 c7 ho7 hc7 hm7))
        have HO8 := Lib.hid ho8
        refine (decode_bad (dec_long HEx.out (by omega) (by simp; omega)) (ho10 _ (by (repeat (first | (refine at_base ?_; simp only [World.size_alloc, size_gr, World.size_setCell, World.size_drew]; done) | (refine at_base ?_; rfl) | refine at_al ?_ | refine at_gr ?_ | refine at_drn ?_ | refine at_dr ?_ | assumption)))).sb (by simp; omega)).mono ?_
        rintro en w1 ⟨rfl, hb⟩; obtain ⟨D11, rfl⟩ := gr_of_below hb; clear hb ho7 ho8 ho9 ho10
        go_wp2_with fail
        refine (split_ok (read_long HEx.out (by simp; omega)) (HO8.out _ (by (repeat (first | (refine at_base ?_; simp only [World.size_alloc, size_gr, World.size_setCell, World.size_drew]; done) | (refine at_base ?_; rfl) | refine at_al ?_ | refine at_gr ?_ | refine at_drn ?_ | refine at_dr ?_ | assumption)))).sb (by simp; omega)).mono ?_
        rintro en w1 ⟨s1, s2, rfl, ho1, ho2, -, hb⟩
        rw [List.take_left] at ho1
        rw [List.drop_left] at ho2
        obtain ⟨B1, d1, rfl, -⟩ := ho1.form
        obtain ⟨B2, d2, rfl, -⟩ := ho2.form
        have q1 := convS ho1.sb
        have q2 := convS ho2.sb
        have q3 := convS (HA.out _ (at_bel (by (repeat (first | (refine at_base ?_; simp only [World.size_alloc, size_gr, World.size_setCell, World.size_drew]; done) | (refine at_base ?_; rfl) | refine at_al ?_ | refine at_gr ?_ | refine at_drn ?_ | refine at_dr ?_ | assumption))) hb)).sb
        have q4 := convS (HB.out _ (at_bel (by (repeat (first | (refine at_base ?_; simp only [World.size_alloc, size_gr, World.size_setCell, World.size_drew]; done) | (refine at_base ?_; rfl) | refine at_al ?_ | refine at_gr ?_ | refine at_drn ?_ | refine at_dr ?_ | assumption))) hb)).sb
        obtain ⟨D12, rfl⟩ := gr_of_below hb; clear hb ho1 ho2
        go_wp2_with fail
        go_ret
        exact ⟨rfl, by (repeat (first | exact Below.refl _ _ | refine bg_al ?_ | refine bg_gr ?_ | refine bg_drn ?_ | refine bg_dr ?_ | assumption))⟩
      · have hle' : ((fa.length : Int) + (fb.length : Int) + (t.length : Int) > 1048576) := by omega
        go_wp2_with fail
        go_ret
        exact ⟨rfl, by (repeat (first | exact Below.refl _ _ | refine bg_al ?_ | refine bg_gr ?_ | refine bg_drn ?_ | refine bg_dr ?_ | assumption))⟩
    · have hne : (eb != 0) = true := by simpa using heb
      clear heb
      obtain ⟨hfx, hfp⟩ := (dec_enc (by omega) HEx.out).2
      have hfa0 : ((fa.length : Int) == 0) = false := beq_eq_false_iff_ne.2 (by omega)
      go_wp2_with fail
      go_ret
      exact ⟨rfl, by (repeat (first | exact Below.refl _ _ | refine bg_al ?_ | refine bg_gr ?_ | refine bg_drn ?_ | refine bg_dr ?_ | assumption))⟩
  · have hne : (ea != 0) = true := by simpa using hea
    have hf0 : fa = [] := by have := encR_bad (x := x) (by rw [HEx.out]; exact hea); rw [HEx.out] at this; exact this
    subst hf0
    clear hea
    go_wp2_with fail
    go_ret
    exact ⟨rfl, by (repeat (first | exact Below.refl _ _ | refine bg_al ?_ | refine bg_gr ?_ | refine bg_drn ?_ | refine bg_dr ?_ | assumption))⟩
end Go.Proofs.Ytdhkhdeblkbojaa
