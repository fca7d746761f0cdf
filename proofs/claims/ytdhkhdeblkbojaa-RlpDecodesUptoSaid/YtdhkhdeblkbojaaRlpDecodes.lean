/- The walk of cairnlaw05.RlpDecodes. -/
import Derived.Test.YtdhkhdeblkbojaaRlpDecU
import Derived.Test.YtdhkhdeblkbojaaGrowApart
set_option linter.unusedSimpArgs false
namespace Go.Proofs.Ytdhkhdeblkbojaa
open Go.RowKit
attribute [local go_sem ↓] Go.wp_at_zero Go.wp_at_succ
attribute [local go_sem] size_gr cell_gr frozen_gr setCell_gr gr_drew gr_drewN lt_k lt_kc le_k le_kc sub_kc conv_const

theorem shut_go {K : Act → World → Prop} {S : World → Prop} {X : Act → World → Prop} {a : Act} {w : World} (h : Shut (∀ a w, S w → (S w → X a w) → K a w)) (hS : S w) (hx : X a w) : K a w := h.out a w hS (fun _ => hx)
def catdog9 : List UInt8 := [200, 131, 99, 97, 116, 131, 100, 111, 103]

set_option maxRecDepth 100000 in
set_option maxHeartbeats 40000000 in
theorem decodes_walk (vb : Value) (b : List UInt8) (w : World) (hb : SB w vb b) (hl : b.length ≤ 1048576) :
    Calls Try.prog 8 #[vb] w fun e w' => e = .returned (.bool true) ∧ Below w.heap.size w w' := by
  have HB := Lib.hid hb
  obtain ⟨A, cb, rfl, -⟩ := hb
  have HTW := Lib.hid (decT_wt b)
  go_enter Try.func8, Try.ntmps8
  go_wp2_with fail
  refine (refdec_u (HB.out.below (by (repeat (first | exact Below.refl _ _ | refine bg_al ?_ | refine bg_gr ?_ | refine bg_drn ?_ | refine bg_dr ?_ | assumption)))) (by omega)).mono ?_
  rintro en w1 ⟨p0, p1, p2, sv1, rfl, hit, -, hb1⟩; obtain ⟨D1, rfl⟩ := gr_of_below hb1; clear hb1
  obtain ⟨l3, A5, n5, c5, A6, n6, c6, rfl, rfl, rfl⟩ := hit.form
  have HWant := Lib.hid (rdI_at hit)
  clear hit
  go_wp2_with fail
  refine (refsplit_u (HB.out.below (by (repeat (first | exact Below.refl _ _ | refine bg_al ?_ | refine bg_gr ?_ | refine bg_drn ?_ | refine bg_dr ?_ | assumption)))) (by omega)).mono ?_
  rintro en w1 ⟨As1, cs1, At1, ct1, rfl, hs, ht, -, hb1⟩; obtain ⟨D2, rfl⟩ := gr_of_below hb1; clear hb1
  have HS1 := Lib.hid (ownG hs)
  have HT1 := Lib.hid (ownG ht)
  clear hs ht
  generalize hsl : (splF b).length = nf at *
  generalize hsr : (splR b).length = nr at *
  have hnf : nf ≤ 1048576 := by have := splF_len b; omega
  have hnr : nr ≤ 1048576 := by have := splR_len b; omega
  have HNF := Lib.hid hsl
  have HNR := Lib.hid hsr
  clear hsl hsr
  obtain ⟨dP, hdP⟩ : ∃ dP, decP b = dP := ⟨_, rfl⟩
  obtain ⟨dE, hdE⟩ : ∃ dE, decE b = dE := ⟨_, rfl⟩
  obtain ⟨sE, hsE⟩ : ∃ sE, splE b = sE := ⟨_, rfl⟩
  rw [hdP, hdE, hsE]
  have HDP := Lib.hid hdP
  have HDE := Lib.hid hdE
  have HSE := Lib.hid hsE
  clear hdP hdE hsE
  obtain ⟨bi, hbi⟩ : ∃ bi, b ++ [1, 2, 3] = bi := ⟨_, rfl⟩
  have hbl : bi.length = b.length + 3 := by rw [← hbi]; simp
  have HBI := Lib.hid hbi
  have HBL := Lib.hid hbl
  clear hbi hbl
  go_wp2_with (at_builtin; first
    | (have _t := ho7; refine ap_any (W0 := ((w.gr D1).alloc (.cells #[.bool l3, .slice A5 n5 c5, .slice A6 n6 c6] 42)).gr D2) (base := w.heap.size + D1.k + 1 + D2.k) b [1, 2, 3] bi (b.length + 3) HBI.out HBL.out rfl rfl rfl (by rfl) (OwnB.below ho7 (by (repeat (first | exact Below.refl _ _ | refine bg_al ?_ | refine bg_gr ?_ | refine bg_drn ?_ | refine bg_dr ?_ | assumption)))) (by rfl) (sb_lit (by simp only [World.size_alloc, size_gr, World.size_setCell, World.size_drew]) rfl rfl (by decide)) (by simp only [List.length_cons, List.length_nil]; omega) (by simp only [World.size_alloc, size_gr]; omega) (by (repeat (first | exact Below.refl _ _ | refine bg_al ?_ | refine bg_gr ?_ | refine bg_drn ?_ | refine bg_dr ?_ | assumption))) (by simp only [World.size_alloc, size_gr]; omega) ?_; intro w8 A8 c8 ho8 hb8 hc8; obtain ⟨D3, rfl⟩ := gr_of_below hb8; clear hb8 hc8 ho7; have hcc8 := (ownB_cap ho8).1; have hcm8 := (ownB_cap ho8).2)
    | (refine ap_e (w.heap.size + D1.k + 1 + D2.k) b b.length rfl rfl rfl rfl rfl (by (repeat (first | (refine blk_new ?_; first | rfl | (simp only [World.size_alloc, size_gr, World.size_setCell, World.size_drew]; done) | (simp only [World.size_alloc, size_gr, World.size_setCell, World.size_drew]; omega) | omega) | refine blk_dr ?_ | refine blk_drn ?_ | refine blk_al (by simp only [World.size_alloc, size_gr, World.size_setCell, World.size_drew]; omega) ?_ | refine blk_gr (by simp only [World.size_alloc, size_gr, World.size_setCell, World.size_drew]; omega) ?_ | assumption))) (Nat.le_refl _) (by rfl) (HB.out.below (by (repeat (first | exact Below.refl _ _ | refine bg_al ?_ | refine bg_gr ?_ | refine bg_drn ?_ | refine bg_dr ?_ | assumption)))) (by omega) ?_; intro D7 A7 c7 ho7 hk7 hc7 hm7; clear hk7))
  have HIn := Lib.hid (ownG (w := ((w.gr D1).alloc (.cells #[.bool l3, .slice A5 n5 c5, .slice A6 n6 c6] 42)).gr D2) (by simpa only [World.size_alloc, size_gr] using ho8))
  have HPre := Lib.hid (fun W ha => (show SB W (.slice A8 b.length c8) b by have h := sb_prefix (k := b.length) (HIn.out.own W ha).sb (by omega); rw [← HBI.out, List.take_left] at h; exact h))
  clear ho8
  refine (decode_u (HPre.out _ (by (repeat (first | (refine at_base ?_; simp only [World.size_alloc, size_gr, World.size_setCell, World.size_drew]; done) | (refine at_base ?_; rfl) | refine at_al ?_ | refine at_gr ?_ | refine at_drn ?_ | refine at_dr ?_ | assumption)))) (by omega)).mono ?_
  rintro en w1 ⟨x0, x1, x2, sv2, rfl, hit, hos, hb1⟩; obtain ⟨D4, rfl⟩ := gr_of_below hb1; clear hb1
  obtain ⟨l4, A9, n9, c9, A10, n10, c10, rfl, rfl, rfl⟩ := hit.form
  have HX := Lib.hid (rdI_at hit)
  have HXS := Lib.hid (ownSG hos)
  have HXL := Lib.hid (sv_len hit)
  clear hit hos
  rw [HDP.out, HDE.out]
  go_wp2_with fail
  refine (split_u (HPre.out _ (by (repeat (first | (refine at_base ?_; simp only [World.size_alloc, size_gr, World.size_setCell, World.size_drew]; done) | (refine at_base ?_; rfl) | refine at_al ?_ | refine at_gr ?_ | refine at_drn ?_ | refine at_dr ?_ | assumption)))) (by omega)).mono ?_
  rintro en w1 ⟨As2, cs2, At2, ct2, rfl, hs, ht, hd, hb1⟩; obtain ⟨D5, rfl⟩ := gr_of_below hb1; clear hb1
  rw [HNF.out] at hs hd ⊢
  rw [HNR.out] at ht hd ⊢
  have HS2 := Lib.hid (ownG hs)
  have HT2 := Lib.hid (ownG ht)
  have HD2 := Lib.hid hd
  clear hs ht hd
  rw [HSE.out]
  go_wp2_with fail
  refine with_world (fun W0 hW0 => ?_); have hz0 := congrArg (fun W => W.heap.size) hW0; have hc0 := fun (b o : Nat) => congrArg (fun W => World.cell? W ⟨b, o, none⟩) hW0; (try simp only [World.size_alloc, size_gr, World.size_drew] at hz0); (try dsimp only at hc0); have HW0 := Lib.hid hW0; clear hW0
  have HB0 := Lib.hid (show Below w.heap.size w W0 by rw [HW0.out]; (repeat (first | exact Below.refl _ _ | refine bg_al ?_ | refine bg_gr ?_ | refine bg_drn ?_ | refine bg_dr ?_ | assumption)))
  go_cut [93] (fun s93 wx => s93 = .bool false ∧ ∃ D, wx = W0.gr D)
  case first =>
    have s1 := Lib.hid (show SB W0 _ _ from (HS1.out.own W0 (by rw [HW0.out]; (repeat (first | (refine at_base ?_; simp only [World.size_alloc, size_gr, World.size_setCell, World.size_drew]; done) | (refine at_base ?_; rfl) | refine at_al ?_ | refine at_gr ?_ | refine at_drn ?_ | refine at_dr ?_ | assumption)))).sb)
    have s2 := Lib.hid (show SB W0 _ _ from (HT1.out.own W0 (by rw [HW0.out]; (repeat (first | (refine at_base ?_; simp only [World.size_alloc, size_gr, World.size_setCell, World.size_drew]; done) | (refine at_base ?_; rfl) | refine at_al ?_ | refine at_gr ?_ | refine at_drn ?_ | refine at_dr ?_ | assumption)))).sb)
    have s3 := Lib.hid (show SB W0 _ _ from (HS2.out.own W0 (by rw [HW0.out]; (repeat (first | (refine at_base ?_; simp only [World.size_alloc, size_gr, World.size_setCell, World.size_drew]; done) | (refine at_base ?_; rfl) | refine at_al ?_ | refine at_gr ?_ | refine at_drn ?_ | refine at_dr ?_ | assumption)))).sb)
    have s4 := Lib.hid (show SB W0 _ _ from (HT2.out.own W0 (by rw [HW0.out]; (repeat (first | (refine at_base ?_; simp only [World.size_alloc, size_gr, World.size_setCell, World.size_drew]; done) | (refine at_base ?_; rfl) | refine at_al ?_ | refine at_gr ?_ | refine at_drn ?_ | refine at_dr ?_ | assumption)))).sb)
    have hx := HX.out W0 (by rw [HW0.out]; (repeat (first | (refine at_base ?_; simp only [World.size_alloc, size_gr, World.size_setCell, World.size_drew]; done) | (refine at_base ?_; rfl) | refine at_al ?_ | refine at_gr ?_ | refine at_drn ?_ | refine at_dr ?_ | assumption)))
    have hw := HWant.out W0 (by rw [HW0.out]; (repeat (first | (refine at_base ?_; simp only [World.size_alloc, size_gr, World.size_setCell, World.size_drew]; done) | (refine at_base ?_; rfl) | refine at_al ?_ | refine at_gr ?_ | refine at_drn ?_ | refine at_dr ?_ | assumption)))
    have HX0 := Lib.hid hx
    have HW1 := Lib.hid hw
    clear hx hw
    go_region_held3 (fun W => (∀ (b o : Nat), b < W0.heap.size → W.cell? ⟨b, o, none⟩ = W0.cell? ⟨b, o, none⟩) ∧ (convert 22 9 (.slice As1 nf cs1)).run Try.prog W = .ok (.string ⟨(splF b).toArray⟩) W ∧ (convert 22 9 (.slice At1 nr ct1)).run Try.prog W = .ok (.string ⟨(splR b).toArray⟩) W ∧ (convert 22 9 (.slice As2 nf cs2)).run Try.prog W = .ok (.string ⟨(splF b).toArray⟩) W ∧ (convert 22 9 (.slice At2 nr ct2)).run Try.prog W = .ok (.string ⟨(splR b).toArray⟩) W)
      (exact ⟨cellB (by (repeat (first | exact Below.refl _ _ | refine bg_al ?_ | refine bg_gr ?_ | refine bg_drn ?_ | refine bg_dr ?_ | assumption))), convS (s1.out.below (by (repeat (first | exact Below.refl _ _ | refine bg_al ?_ | refine bg_gr ?_ | refine bg_drn ?_ | refine bg_dr ?_ | assumption)))), convS (s2.out.below (by (repeat (first | exact Below.refl _ _ | refine bg_al ?_ | refine bg_gr ?_ | refine bg_drn ?_ | refine bg_dr ?_ | assumption)))), convS (s3.out.below (by (repeat (first | exact Below.refl _ _ | refine bg_al ?_ | refine bg_gr ?_ | refine bg_drn ?_ | refine bg_dr ?_ | assumption)))), convS (s4.out.below (by (repeat (first | exact Below.refl _ _ | refine bg_al ?_ | refine bg_gr ?_ | refine bg_drn ?_ | refine bg_dr ?_ | assumption))))⟩)
      (first
        | (go_at_call 28; refine (items_same (hitA.kept (Below.refl _ _)) _ (Rg w.heap.size D1) _ _ _ (decT b) _ (Below.refl _ _) (HW1.out.kept (by (repeat (first | exact Below.refl _ _ | refine bg_al ?_ | refine bg_gr ?_ | refine bg_drn ?_ | refine bg_dr ?_ | assumption))))).mono ?_; rintro en w8 ⟨rfl, hb8⟩; have hsm : sameI (decT b) (decT b) = true := sameI_eq.2 rfl; rw [hsm]; obtain ⟨D7, rfl⟩ := gr_of_below hb8; clear hb8)
        | (go_at_call 29; refine (back_any HX0.out _ (by (repeat (first | exact Below.refl _ _ | refine bg_al ?_ | refine bg_gr ?_ | refine bg_drn ?_ | refine bg_dr ?_ | assumption))) (by have := HTW.out; omega)).mono ?_; rintro en w7 ⟨q0, q1, q2, svA, rfl, hitA, -, hb7⟩; obtain ⟨D6, rfl⟩ := gr_of_below hb7; obtain ⟨l7, A7, n7, c7, A8, n8, c8, rfl, rfl, rfl⟩ := hitA.form; clear hb7))
    go_wp2_with fail
    go_meet
    case rel => exact ⟨rfl, gr_of_below (by (repeat (first | exact Below.refl _ _ | refine bg_al ?_ | refine bg_gr ?_ | refine bg_drn ?_ | refine bg_dr ?_ | assumption)))⟩
  case rest =>
    obtain ⟨rfl, D6, rfl⟩ := hcut
    (have hW0 := HW0.out; clear HW0 hz0 hc0; (try clear hHeld); subst hW0)
    go_wp2_with fail
    obtain ⟨cd, hcd⟩ : ∃ cd, cd = catdog9 := ⟨_, rfl⟩
    have HCD := Lib.hid hcd
    clear hcd
    refine (awake_any _).mono ?_
    rintro en w1 ⟨rfl, hb⟩; obtain ⟨D7, rfl⟩ := gr_of_below hb; clear hb
    go_wp2_with fail
    refine (decode_u (HPre.out _ (by (repeat (first | (refine at_base ?_; simp only [World.size_alloc, size_gr, World.size_setCell, World.size_drew]; done) | (refine at_base ?_; rfl) | refine at_al ?_ | refine at_gr ?_ | refine at_drn ?_ | refine at_dr ?_ | assumption)))) (by omega)).mono ?_
    rintro en w1 ⟨x0, x1, x2, sv3, rfl, hit, hos, hb1⟩; obtain ⟨D8, rfl⟩ := gr_of_below hb1; clear hb1
    obtain ⟨l5, A11, n11, c11, A12, n12, c12, rfl, rfl, rfl⟩ := hit.form
    have HY := Lib.hid (rdI_at hit)
    have HYS := Lib.hid (ownSG hos)
    have HYL := Lib.hid (sv_len hit)
    clear hit hos
    rw [HDP.out, HDE.out]
    go_wp2_with fail
    refine (decode_u (b := cd) (sb_lit (by simp only [World.size_alloc, size_gr, World.size_setCell, World.size_drew]) (by rw [HCD.out]; rfl) (by rw [HCD.out]; rfl) (by decide)) (by rw [HCD.out]; decide)).mono ?_
    rintro en w1 ⟨x0, x1, x2, sv4, rfl, hit, hos, hb1⟩; obtain ⟨D9, rfl⟩ := gr_of_below hb1; clear hb1
    obtain ⟨l6, A13, n13, c13, A14, n14, c14, rfl, rfl, rfl⟩ := hit.form
    have HZ := Lib.hid (rdI_at hit)
    have HZS := Lib.hid (ownSG hos)
    have HZL := Lib.hid (sv_len hit)
    have HTZ := Lib.hid (decT_wt cd)
    clear hit hos
    generalize decP cd = zP
    generalize decE cd = zE
    generalize decT cd = zT at HZ HZL HTZ
    go_wp2_with fail
    refine (split_u (HPre.out _ (by (repeat (first | (refine at_base ?_; simp only [World.size_alloc, size_gr, World.size_setCell, World.size_drew]; done) | (refine at_base ?_; rfl) | refine at_al ?_ | refine at_gr ?_ | refine at_drn ?_ | refine at_dr ?_ | assumption)))) (by omega)).mono ?_
    rintro en w1 ⟨As3, cs3, At3, ct3, rfl, hs, ht, hd, hb1⟩; obtain ⟨D10, rfl⟩ := gr_of_below hb1; clear hb1
    rw [HNF.out] at hs hd ⊢
    rw [HNR.out] at ht hd ⊢
    have HS3 := Lib.hid (ownG hs)
    have HT3 := Lib.hid (ownG ht)
    have HD3 := Lib.hid hd
    clear hs ht hd
    rw [HSE.out]
    clear HB0
    go_wp2_with fail
    refine with_world (fun W0 hW0 => ?_); have hz0 := congrArg (fun W => W.heap.size) hW0; have hc0 := fun (b o : Nat) => congrArg (fun W => World.cell? W ⟨b, o, none⟩) hW0; (try simp only [World.size_alloc, size_gr, World.size_drew] at hz0); (try dsimp only at hc0); have HW0 := Lib.hid hW0; clear hW0
    have HB0 := Lib.hid (show Below w.heap.size w W0 by rw [HW0.out]; (repeat (first | exact Below.refl _ _ | refine bg_al ?_ | refine bg_gr ?_ | refine bg_drn ?_ | refine bg_dr ?_ | assumption)))
    go_cut [159] (fun s wx => s = .bool false ∧ ∃ D, wx = W0.gr D)
    case first =>
      have s1 := Lib.hid (show SB W0 _ _ from (HS1.out.own W0 (by rw [HW0.out]; (repeat (first | (refine at_base ?_; simp only [World.size_alloc, size_gr, World.size_setCell, World.size_drew]; done) | (refine at_base ?_; rfl) | refine at_al ?_ | refine at_gr ?_ | refine at_drn ?_ | refine at_dr ?_ | assumption)))).sb)
      have s2 := Lib.hid (show SB W0 _ _ from (HT1.out.own W0 (by rw [HW0.out]; (repeat (first | (refine at_base ?_; simp only [World.size_alloc, size_gr, World.size_setCell, World.size_drew]; done) | (refine at_base ?_; rfl) | refine at_al ?_ | refine at_gr ?_ | refine at_drn ?_ | refine at_dr ?_ | assumption)))).sb)
      have s3 := Lib.hid (show SB W0 _ _ from (HS2.out.own W0 (by rw [HW0.out]; (repeat (first | (refine at_base ?_; simp only [World.size_alloc, size_gr, World.size_setCell, World.size_drew]; done) | (refine at_base ?_; rfl) | refine at_al ?_ | refine at_gr ?_ | refine at_drn ?_ | refine at_dr ?_ | assumption)))).sb)
      have s4 := Lib.hid (show SB W0 _ _ from (HT2.out.own W0 (by rw [HW0.out]; (repeat (first | (refine at_base ?_; simp only [World.size_alloc, size_gr, World.size_setCell, World.size_drew]; done) | (refine at_base ?_; rfl) | refine at_al ?_ | refine at_gr ?_ | refine at_drn ?_ | refine at_dr ?_ | assumption)))).sb)
      have s5 := Lib.hid (show SB W0 _ _ from (HS3.out.own W0 (by rw [HW0.out]; (repeat (first | (refine at_base ?_; simp only [World.size_alloc, size_gr, World.size_setCell, World.size_drew]; done) | (refine at_base ?_; rfl) | refine at_al ?_ | refine at_gr ?_ | refine at_drn ?_ | refine at_dr ?_ | assumption)))).sb)
      have s6 := Lib.hid (show SB W0 _ _ from (HT3.out.own W0 (by rw [HW0.out]; (repeat (first | (refine at_base ?_; simp only [World.size_alloc, size_gr, World.size_setCell, World.size_drew]; done) | (refine at_base ?_; rfl) | refine at_al ?_ | refine at_gr ?_ | refine at_drn ?_ | refine at_dr ?_ | assumption)))).sb)
      have hx := HX.out W0 (by rw [HW0.out]; (repeat (first | (refine at_base ?_; simp only [World.size_alloc, size_gr, World.size_setCell, World.size_drew]; done) | (refine at_base ?_; rfl) | refine at_al ?_ | refine at_gr ?_ | refine at_drn ?_ | refine at_dr ?_ | assumption)))
      have hy := HY.out W0 (by rw [HW0.out]; (repeat (first | (refine at_base ?_; simp only [World.size_alloc, size_gr, World.size_setCell, World.size_drew]; done) | (refine at_base ?_; rfl) | refine at_al ?_ | refine at_gr ?_ | refine at_drn ?_ | refine at_dr ?_ | assumption)))
      have hw := HWant.out W0 (by rw [HW0.out]; (repeat (first | (refine at_base ?_; simp only [World.size_alloc, size_gr, World.size_setCell, World.size_drew]; done) | (refine at_base ?_; rfl) | refine at_al ?_ | refine at_gr ?_ | refine at_drn ?_ | refine at_dr ?_ | assumption)))
      have HX0 := Lib.hid hx
      have HY0 := Lib.hid hy
      have HW1 := Lib.hid hw
      clear hx hw hy
      go_region_held3 (fun W => (∀ (b o : Nat), b < W0.heap.size → W.cell? ⟨b, o, none⟩ = W0.cell? ⟨b, o, none⟩) ∧ (convert 22 9 (.slice As1 nf cs1)).run Try.prog W = .ok (.string ⟨(splF b).toArray⟩) W ∧ (convert 22 9 (.slice At1 nr ct1)).run Try.prog W = .ok (.string ⟨(splR b).toArray⟩) W ∧ (convert 22 9 (.slice As2 nf cs2)).run Try.prog W = .ok (.string ⟨(splF b).toArray⟩) W ∧ (convert 22 9 (.slice At2 nr ct2)).run Try.prog W = .ok (.string ⟨(splR b).toArray⟩) W ∧ (convert 22 9 (.slice As3 nf cs3)).run Try.prog W = .ok (.string ⟨(splF b).toArray⟩) W ∧ (convert 22 9 (.slice At3 nr ct3)).run Try.prog W = .ok (.string ⟨(splR b).toArray⟩) W)
        (exact ⟨cellB (by (repeat (first | exact Below.refl _ _ | refine bg_al ?_ | refine bg_gr ?_ | refine bg_drn ?_ | refine bg_dr ?_ | assumption))), convS (s1.out.below (by (repeat (first | exact Below.refl _ _ | refine bg_al ?_ | refine bg_gr ?_ | refine bg_drn ?_ | refine bg_dr ?_ | assumption)))), convS (s2.out.below (by (repeat (first | exact Below.refl _ _ | refine bg_al ?_ | refine bg_gr ?_ | refine bg_drn ?_ | refine bg_dr ?_ | assumption)))), convS (s3.out.below (by (repeat (first | exact Below.refl _ _ | refine bg_al ?_ | refine bg_gr ?_ | refine bg_drn ?_ | refine bg_dr ?_ | assumption)))), convS (s4.out.below (by (repeat (first | exact Below.refl _ _ | refine bg_al ?_ | refine bg_gr ?_ | refine bg_drn ?_ | refine bg_dr ?_ | assumption)))), convS (s5.out.below (by (repeat (first | exact Below.refl _ _ | refine bg_al ?_ | refine bg_gr ?_ | refine bg_drn ?_ | refine bg_dr ?_ | assumption)))), convS (s6.out.below (by (repeat (first | exact Below.refl _ _ | refine bg_al ?_ | refine bg_gr ?_ | refine bg_drn ?_ | refine bg_dr ?_ | assumption))))⟩)
        (first
          | (go_at_call 28; have _t := hitB; refine (items_same (hitB.kept (Below.refl _ _)) _ (Rg w.heap.size D1) _ _ _ (decT b) _ (Below.refl _ _) (HW1.out.kept (by (repeat (first | exact Below.refl _ _ | refine bg_al ?_ | refine bg_gr ?_ | refine bg_drn ?_ | refine bg_dr ?_ | assumption))))).mono ?_; rintro en w8 ⟨rfl, hb8⟩; have hsm2 : sameI (decT b) (decT b) = true := sameI_eq.2 rfl; rw [hsm2]; obtain ⟨D14, rfl⟩ := gr_of_below hb8; clear hb8)
          | (go_at_call 28; refine (items_same (hitA.kept (Below.refl _ _)) _ (Rg w.heap.size D1) _ _ _ (decT b) _ (Below.refl _ _) (HW1.out.kept (by (repeat (first | exact Below.refl _ _ | refine bg_al ?_ | refine bg_gr ?_ | refine bg_drn ?_ | refine bg_dr ?_ | assumption))))).mono ?_; rintro en w8 ⟨rfl, hb8⟩; have hsm : sameI (decT b) (decT b) = true := sameI_eq.2 rfl; rw [hsm]; obtain ⟨D12, rfl⟩ := gr_of_below hb8; clear hb8)
          | (go_at_call 29; have _t := hitA; refine (back_any HY0.out _ (by (repeat (first | exact Below.refl _ _ | refine bg_al ?_ | refine bg_gr ?_ | refine bg_drn ?_ | refine bg_dr ?_ | assumption))) (by have := HTW.out; omega)).mono ?_; rintro en w7 ⟨q0, q1, q2, svB, rfl, hitB, -, hb7⟩; obtain ⟨D13, rfl⟩ := gr_of_below hb7; obtain ⟨l8, A15, n15, c15, A16, n16, c16, rfl, rfl, rfl⟩ := hitB.form; clear hb7)
          | (go_at_call 29; refine (back_any HX0.out _ (by (repeat (first | exact Below.refl _ _ | refine bg_al ?_ | refine bg_gr ?_ | refine bg_drn ?_ | refine bg_dr ?_ | assumption))) (by have := HTW.out; omega)).mono ?_; rintro en w7 ⟨q0, q1, q2, svA, rfl, hitA, -, hb7⟩; obtain ⟨D11, rfl⟩ := gr_of_below hb7; obtain ⟨l7, A7, n7, c7, A8, n8, c8, rfl, rfl, rfl⟩ := hitA.form; clear hb7))
      go_wp2_with fail
      go_meet
      case rel => exact ⟨rfl, gr_of_below (by (repeat (first | exact Below.refl _ _ | refine bg_al ?_ | refine bg_gr ?_ | refine bg_drn ?_ | refine bg_dr ?_ | assumption)))⟩
    case rest =>
      obtain ⟨rfl, D11, rfl⟩ := hcut
      (have hW0 := HW0.out; clear HW0 hz0 hc0; (try clear hHeld); subst hW0)
      go_wp2_with fail
      refine with_world (fun W0 hW0 => ?_); have hz0 := congrArg (fun W => W.heap.size) hW0; have hc0 := fun (b o : Nat) => congrArg (fun W => World.cell? W ⟨b, o, none⟩) hW0; (try simp only [World.size_alloc, size_gr, World.size_drew] at hz0); (try dsimp only at hc0); have HW0 := Lib.hid hW0; clear hW0
      have HB0 := Lib.hid (show Below w.heap.size w W0 by rw [HW0.out]; (repeat (first | exact Below.refl _ _ | refine bg_al ?_ | refine bg_gr ?_ | refine bg_drn ?_ | refine bg_dr ?_ | assumption)))
      have hbs : w.heap.size ≤ W0.heap.size := HB0.out.size
      obtain ⟨P, hP⟩ : ∃ P : Nat → Prop, ∀ k, P k ↔ ¬ Rg (w.heap.size + D1.k + 1 + D2.k + D3.k) D4 k ∧ ¬ Rg (w.heap.size + D1.k + 1 + D2.k + D3.k + D4.k + 1 + D5.k + D6.k + D7.k) D8 k ∧ ¬ Rg (w.heap.size + D1.k + 1 + D2.k + D3.k + D4.k + 1 + D5.k + D6.k + D7.k + D8.k + 1 + 1) D9 k ∧ ¬ Rg (w.heap.size + D1.k + 1 + D2.k + D3.k + D4.k + 1) D5 k ∧ ¬ Rg (w.heap.size + D1.k + 1 + D2.k + D3.k + D4.k + 1 + D5.k + D6.k + D7.k + D8.k + 1 + 1 + D9.k + 1) D10 k := ⟨_, fun _ => Iff.rfl⟩
      unfold Rg at hP
      have HP := Lib.hid hP
      have aX : At (w.heap.size + D1.k + 1 + D2.k + D3.k) D4 W0 := by rw [HW0.out]; (repeat (first | (refine at_base ?_; simp only [World.size_alloc, size_gr, World.size_setCell, World.size_drew]; done) | (refine at_base ?_; rfl) | refine at_al ?_ | refine at_gr ?_ | refine at_drn ?_ | refine at_dr ?_ | assumption))
      have aY : At (w.heap.size + D1.k + 1 + D2.k + D3.k + D4.k + 1 + D5.k + D6.k + D7.k) D8 W0 := by rw [HW0.out]; (repeat (first | (refine at_base ?_; simp only [World.size_alloc, size_gr, World.size_setCell, World.size_drew]; done) | (refine at_base ?_; rfl) | refine at_al ?_ | refine at_gr ?_ | refine at_drn ?_ | refine at_dr ?_ | assumption))
      have aZ : At (w.heap.size + D1.k + 1 + D2.k + D3.k + D4.k + 1 + D5.k + D6.k + D7.k + D8.k + 1 + 1) D9 W0 := by rw [HW0.out]; (repeat (first | (refine at_base ?_; simp only [World.size_alloc, size_gr, World.size_setCell, World.size_drew]; done) | (refine at_base ?_; rfl) | refine at_al ?_ | refine at_gr ?_ | refine at_drn ?_ | refine at_dr ?_ | assumption))
      have hX := HXS.out
      have hY := HYS.out
      have hZ := HZS.out
      simp only [World.size_alloc, size_gr] at hX hY hZ
      have rX := hX.rg
      have rY := hY.rg
      have rZ := hZ.rg
      have hD3 : Dist (sv2 ++ (sv3 ++ sv4)) := Dist.append hX.dist (Dist.append hY.dist hZ.dist (fun u hu v hv g h1 h2 => by have := rY u hu g h1; have := rZ v hv g h2; omega)) (fun u hu v hv g h1 h2 => by
        have := rX u hu g h1
        rcases List.mem_append.1 hv with hv | hv
        · have := rY v hv g h2; omega
        · have := rZ v hv g h2; omega)
      have oX := hX.own W0 aX
      have oY := hY.own W0 aY
      have oZ := hZ.own W0 aZ
      have hO3 : ∀ v ∈ (sv2 ++ (sv3 ++ sv4)), ∃ l, OwnB W0 w.heap.size v l ∧ l.length ≤ 1099511627776 := fun v hv => by
        have hTW := HTW.out
        have hTZ := HTZ.out
        rcases List.mem_append.1 hv with hv | hv
        · obtain ⟨l, hl⟩ := oX.1 v hv
          obtain ⟨A, n, c, rfl, hn⟩ := HXL.out v hv
          exact ⟨l, hl.mono (by omega), by have := ownB_len hl; omega⟩
        · rcases List.mem_append.1 hv with hv | hv
          · obtain ⟨l, hl⟩ := oY.1 v hv
            obtain ⟨A, n, c, rfl, hn⟩ := HYL.out v hv
            exact ⟨l, hl.mono (by omega), by have := ownB_len hl; omega⟩
          · obtain ⟨l, hl⟩ := oZ.1 v hv
            obtain ⟨A, n, c, rfl, hn⟩ := HZL.out v hv
            exact ⟨l, hl.mono (by omega), by have := ownB_len hl; omega⟩
      have hPS : ∀ k, P k → ¬ InS (sv2 ++ (sv3 ++ sv4)) k := fun k hk hS => by
        have hk := (HP.out k).1 hk
        obtain ⟨v, hv, hb⟩ := inS_mem hS
        rcases List.mem_append.1 hv with hv | hv
        · have := rX v hv k hb; omega
        · rcases List.mem_append.1 hv with hv | hv
          · have := rY v hv k hb; omega
          · have := rZ v hv k hb; omega
      have rs2 := HS2.out.rg
      have rt2 := HT2.out.rg
      have rs3 := HS3.out.rg
      have rt3 := HT3.out.rg
      simp only [World.size_alloc, size_gr] at rs2 rt2 rs3 rt3
      have hPA : ∀ k, P k → ¬ InS [Value.slice As2 nf cs2, .slice At2 nr ct2, .slice As3 nf cs3, .slice At3 nr ct3] k := fun k hk hS => by
        have hk := (HP.out k).1 hk
        obtain ⟨v, hv, hb⟩ := inS_mem hS
        simp only [List.mem_cons, List.not_mem_nil, or_false] at hv
        rcases hv with rfl | rfl | rfl | rfl
        · have := rs2 k hb; omega
        · have := rt2 k hb; omega
        · have := rs3 k hb; omega
        · have := rt3 k hb; omega
      have hDA : Dist [Value.slice As2 nf cs2, .slice At2 nr ct2, .slice As3 nf cs3, .slice At3 nr ct3] := Dist.append (a := [Value.slice As2 nf cs2, .slice At2 nr ct2]) HD2.out HD3.out (fun u hu v hv g h1 h2 => by
        have q1 : w.heap.size + D1.k + 1 + D2.k + D3.k + D4.k + 1 ≤ g ∧ g < w.heap.size + D1.k + 1 + D2.k + D3.k + D4.k + 1 + D5.k := by
          simp only [List.mem_cons, List.not_mem_nil, or_false] at hu
          rcases hu with rfl | rfl
          · exact rs2 g h1
          · exact rt2 g h1
        have q2 : w.heap.size + D1.k + 1 + D2.k + D3.k + D4.k + 1 + D5.k + D6.k + D7.k + D8.k + 1 + 1 + D9.k + 1 ≤ g ∧ g < w.heap.size + D1.k + 1 + D2.k + D3.k + D4.k + 1 + D5.k + D6.k + D7.k + D8.k + 1 + 1 + D9.k + 1 + D10.k := by
          simp only [List.mem_cons, List.not_mem_nil, or_false] at hv
          rcases hv with rfl | rfl
          · exact rs3 g h2
          · exact rt3 g h2
        omega)
      have oIn := HIn.out.own W0 (by rw [HW0.out]; (repeat (first | (refine at_base ?_; simp only [World.size_alloc, size_gr, World.size_setCell, World.size_drew]; done) | (refine at_base ?_; rfl) | refine at_al ?_ | refine at_gr ?_ | refine at_drn ?_ | refine at_dr ?_ | assumption)))
      have rIn := HIn.out.rg
      simp only [World.size_alloc, size_gr] at rIn
      have x0 : W0.cell? ⟨w.heap.size + D1.k + 1 + D2.k + D3.k + D4.k, 0, none⟩ = some (.bool l4) := by rw [HW0.out]; go_simp
      have x1 : W0.cell? ⟨w.heap.size + D1.k + 1 + D2.k + D3.k + D4.k, 1, none⟩ = some (.slice A9 n9 c9) := by rw [HW0.out]; go_simp
      have x2 : W0.cell? ⟨w.heap.size + D1.k + 1 + D2.k + D3.k + D4.k, 2, none⟩ = some (.slice A10 n10 c10) := by rw [HW0.out]; go_simp
      have x3 : W0.cell? ⟨w.heap.size + D1.k + 1 + D2.k + D3.k + D4.k + 1 + D5.k + D6.k + D7.k + D8.k, 0, none⟩ = some (.bool l5) := by rw [HW0.out]; go_simp
      have x4 : W0.cell? ⟨w.heap.size + D1.k + 1 + D2.k + D3.k + D4.k + 1 + D5.k + D6.k + D7.k + D8.k, 1, none⟩ = some (.slice A11 n11 c11) := by rw [HW0.out]; go_simp
      have x5 : W0.cell? ⟨w.heap.size + D1.k + 1 + D2.k + D3.k + D4.k + 1 + D5.k + D6.k + D7.k + D8.k, 2, none⟩ = some (.slice A12 n12 c12) := by rw [HW0.out]; go_simp
      have x6 : W0.cell? ⟨w.heap.size + D1.k + 1 + D2.k + D3.k + D4.k + 1 + D5.k + D6.k + D7.k + D8.k + 1 + 1 + D9.k, 0, none⟩ = some (.bool l6) := by rw [HW0.out]; go_simp
      have x7 : W0.cell? ⟨w.heap.size + D1.k + 1 + D2.k + D3.k + D4.k + 1 + D5.k + D6.k + D7.k + D8.k + 1 + 1 + D9.k, 1, none⟩ = some (.slice A13 n13 c13) := by rw [HW0.out]; go_simp
      have x8 : W0.cell? ⟨w.heap.size + D1.k + 1 + D2.k + D3.k + D4.k + 1 + D5.k + D6.k + D7.k + D8.k + 1 + 1 + D9.k, 2, none⟩ = some (.slice A14 n14 c14) := by rw [HW0.out]; go_simp
      have hKeep : ∀ (W : World), (∀ b o u, P b → W0.cell? ⟨b, o, none⟩ = some u → W.cell? ⟨b, o, none⟩ = some u) → (W.cell? ⟨w.heap.size + D1.k + 1 + D2.k + D3.k + D4.k, 0, none⟩ = some (.bool l4) ∧ W.cell? ⟨w.heap.size + D1.k + 1 + D2.k + D3.k + D4.k, 1, none⟩ = some (.slice A9 n9 c9) ∧ W.cell? ⟨w.heap.size + D1.k + 1 + D2.k + D3.k + D4.k, 2, none⟩ = some (.slice A10 n10 c10) ∧ W.cell? ⟨w.heap.size + D1.k + 1 + D2.k + D3.k + D4.k + 1 + D5.k + D6.k + D7.k + D8.k, 0, none⟩ = some (.bool l5) ∧ W.cell? ⟨w.heap.size + D1.k + 1 + D2.k + D3.k + D4.k + 1 + D5.k + D6.k + D7.k + D8.k, 1, none⟩ = some (.slice A11 n11 c11) ∧ W.cell? ⟨w.heap.size + D1.k + 1 + D2.k + D3.k + D4.k + 1 + D5.k + D6.k + D7.k + D8.k, 2, none⟩ = some (.slice A12 n12 c12) ∧ W.cell? ⟨w.heap.size + D1.k + 1 + D2.k + D3.k + D4.k + 1 + D5.k + D6.k + D7.k + D8.k + 1 + 1 + D9.k, 0, none⟩ = some (.bool l6) ∧ W.cell? ⟨w.heap.size + D1.k + 1 + D2.k + D3.k + D4.k + 1 + D5.k + D6.k + D7.k + D8.k + 1 + 1 + D9.k, 1, none⟩ = some (.slice A13 n13 c13) ∧ W.cell? ⟨w.heap.size + D1.k + 1 + D2.k + D3.k + D4.k + 1 + D5.k + D6.k + D7.k + D8.k + 1 + 1 + D9.k, 2, none⟩ = some (.slice A14 n14 c14) ∧ (convert 22 9 (.slice A8 (b.length + 3) c8)).run Try.prog W = .ok (.string ⟨(bi).toArray⟩) W) := fun W h =>
        ⟨h _ _ _ ((HP.out _).2 (by omega)) x0, h _ _ _ ((HP.out _).2 (by omega)) x1, h _ _ _ ((HP.out _).2 (by omega)) x2, h _ _ _ ((HP.out _).2 (by omega)) x3, h _ _ _ ((HP.out _).2 (by omega)) x4, h _ _ _ ((HP.out _).2 (by omega)) x5, h _ _ _ ((HP.out _).2 (by omega)) x6, h _ _ _ ((HP.out _).2 (by omega)) x7, h _ _ _ ((HP.out _).2 (by omega)) x8, convS (SB.keepP oIn.sb (fun a n c e => (HP.out _).2 (by have := rIn a.block (by rw [e]; rfl); omega)) h)⟩
      have HKeep := Lib.hid hKeep
      have HKb := Lib.hid (fun (W : World) (h : ∀ b o u, P b → W0.cell? ⟨b, o, none⟩ = some u → W.cell? ⟨b, o, none⟩ = some u) => (show SB W (.slice A b.length cb) b from SB.keep HB.out (fun k o u hc => h k o u ((HP.out _).2 (by have := World.block_lt_of_cell? w _ hc; simp only at this; omega)) (cell_later HB0.out hc))))
      have HRX := Lib.hid ((HX.out W0 (by simpa only [World.size_alloc, size_gr] using aX)).mono (T' := fun k => k < W0.heap.size) (fun k hk => by have h1 := aX.1; have h2 := hk.2; simp only [World.size_alloc, size_gr] at h2; omega))
      have HRY := Lib.hid ((HY.out W0 (by simpa only [World.size_alloc, size_gr] using aY)).mono (T' := fun k => k < W0.heap.size) (fun k hk => by have h1 := aY.1; have h2 := hk.2; simp only [World.size_alloc, size_gr] at h2; omega))
      have HRZ := Lib.hid ((HZ.out W0 (by simpa only [World.size_alloc, size_gr] using aZ)).mono (T' := fun k => k < W0.heap.size) (fun k hk => by have h1 := aZ.1; have h2 := hk.2; simp only [World.size_alloc, size_gr] at h2; omega))
      have s1 := Lib.hid (show OwnB W0 _ _ _ from (HS2.out.own W0 (by rw [HW0.out]; (repeat (first | (refine at_base ?_; simp only [World.size_alloc, size_gr, World.size_setCell, World.size_drew]; done) | (refine at_base ?_; rfl) | refine at_al ?_ | refine at_gr ?_ | refine at_drn ?_ | refine at_dr ?_ | assumption)))))
      have s2 := Lib.hid (show OwnB W0 _ _ _ from (HT2.out.own W0 (by rw [HW0.out]; (repeat (first | (refine at_base ?_; simp only [World.size_alloc, size_gr, World.size_setCell, World.size_drew]; done) | (refine at_base ?_; rfl) | refine at_al ?_ | refine at_gr ?_ | refine at_drn ?_ | refine at_dr ?_ | assumption)))))
      have s3 := Lib.hid (show OwnB W0 _ _ _ from (HS3.out.own W0 (by rw [HW0.out]; (repeat (first | (refine at_base ?_; simp only [World.size_alloc, size_gr, World.size_setCell, World.size_drew]; done) | (refine at_base ?_; rfl) | refine at_al ?_ | refine at_gr ?_ | refine at_drn ?_ | refine at_dr ?_ | assumption)))))
      have s4 := Lib.hid (show OwnB W0 _ _ _ from (HT3.out.own W0 (by rw [HW0.out]; (repeat (first | (refine at_base ?_; simp only [World.size_alloc, size_gr, World.size_setCell, World.size_drew]; done) | (refine at_base ?_; rfl) | refine at_al ?_ | refine at_gr ?_ | refine at_drn ?_ | refine at_dr ?_ | assumption)))))
      have hfl : (splF b).length ≤ 1099511627776 := by have := splF_len b; omega
      have hrl : (splR b).length ≤ 1099511627776 := by have := splR_len b; omega
      have hw3 : wtL [decT b, decT b, zT] ≤ 1099511627776 := by have := HTW.out; have := HTZ.out; simp only [wtL]; omega
      have HO3 := Lib.hid hO3
      have HD3' := Lib.hid hD3
      have HDA := Lib.hid hDA
      have HPS := Lib.hid hPS
      have HPA := Lib.hid hPA
      have hdj : ∀ k, InS [Value.slice As2 nf cs2, .slice At2 nr ct2, .slice As3 nf cs3, .slice At3 nr ct3] k → k < W0.heap.size ∧ ¬ InS (sv2 ++ (sv3 ++ sv4)) k := fun k hS => by
        obtain ⟨v, hv, hb⟩ := inS_mem hS
        have q : k < W0.heap.size ∧ ((w.heap.size + D1.k + 1 + D2.k + D3.k + D4.k + 1 ≤ k ∧ k < w.heap.size + D1.k + 1 + D2.k + D3.k + D4.k + 1 + D5.k) ∨ (w.heap.size + D1.k + 1 + D2.k + D3.k + D4.k + 1 + D5.k + D6.k + D7.k + D8.k + 1 + 1 + D9.k + 1 ≤ k ∧ k < w.heap.size + D1.k + 1 + D2.k + D3.k + D4.k + 1 + D5.k + D6.k + D7.k + D8.k + 1 + 1 + D9.k + 1 + D10.k)) := by
          simp only [List.mem_cons, List.not_mem_nil, or_false] at hv
          rcases hv with rfl | rfl | rfl | rfl
          · exact ⟨(s1.out.lt k hb).2, .inl (rs2 k hb)⟩
          · exact ⟨(s2.out.lt k hb).2, .inl (rt2 k hb)⟩
          · exact ⟨(s3.out.lt k hb).2, .inr (rs3 k hb)⟩
          · exact ⟨(s4.out.lt k hb).2, .inr (rt3 k hb)⟩
        refine ⟨q.1, fun hS => ?_⟩
        obtain ⟨v, hv, hb⟩ := inS_mem hS
        rcases List.mem_append.1 hv with hv | hv
        · have := rX v hv k hb; omega
        · rcases List.mem_append.1 hv with hv | hv
          · have := rY v hv k hb; omega
          · have := rZ v hv k hb; omega
      have HDJ := Lib.hid hdj
      clear x0 x1 x2 x3 x4 x5 x6 x7 x8 hKeep hO3 hD3 hDA hPS hPA hdj oX oY oZ oIn rX rY rZ rs2 rt2 rs3 rt3 rIn hX hY hZ aX aY aZ hP hc0
      replace s1 := Lib.hid (s1.out.mono (base' := w.heap.size) (by simp only [World.size_alloc, size_gr]; omega))
      replace s2 := Lib.hid (s2.out.mono (base' := w.heap.size) (by simp only [World.size_alloc, size_gr]; omega))
      replace s3 := Lib.hid (s3.out.mono (base' := w.heap.size) (by simp only [World.size_alloc, size_gr]; omega))
      replace s4 := Lib.hid (s4.out.mono (base' := w.heap.size) (by simp only [World.size_alloc, size_gr]; omega))
      clear HP HX HY HZ HXS HYS HZS HXL HYL HZL HS1 HT1 HS2 HT2 HS3 HT3 HIn HPre HWant HW0 HTZ HD2 HD3
      generalize w.heap.size + D1.k + 1 + D2.k + D3.k + D4.k + 1 + D5.k + D6.k + D7.k + D8.k + 1 + 1 + D9.k = bz at HKeep ⊢
      generalize w.heap.size + D1.k + 1 + D2.k + D3.k + D4.k + 1 + D5.k + D6.k + D7.k + D8.k = by_ at HKeep ⊢
      generalize w.heap.size + D1.k + 1 + D2.k + D3.k + D4.k = bx at HKeep ⊢

      go_region_held3 (fun W => W.cell? ⟨bx, 0, none⟩ = some (.bool l4) ∧ W.cell? ⟨bx, 1, none⟩ = some (.slice A9 n9 c9) ∧ W.cell? ⟨bx, 2, none⟩ = some (.slice A10 n10 c10) ∧ W.cell? ⟨by_, 0, none⟩ = some (.bool l5) ∧ W.cell? ⟨by_, 1, none⟩ = some (.slice A11 n11 c11) ∧ W.cell? ⟨by_, 2, none⟩ = some (.slice A12 n12 c12) ∧ W.cell? ⟨bz, 0, none⟩ = some (.bool l6) ∧ W.cell? ⟨bz, 1, none⟩ = some (.slice A13 n13 c13) ∧ W.cell? ⟨bz, 2, none⟩ = some (.slice A14 n14 c14) ∧ (convert 22 9 (.slice A8 (b.length + 3) c8)).run Try.prog W = .ok (.string ⟨(bi).toArray⟩) W)
        (exact HKeep.out _ (by first | exact fun b o u hp h => cell_later (w := w8) (by (repeat (first | exact Below.refl _ _ | refine bg_al ?_ | refine bg_gr ?_ | refine bg_drn ?_ | refine bg_dr ?_ | assumption))) (HK8.out b o u hp h) | exact fun b o u hp h => cell_later (w := w7) (by (repeat (first | exact Below.refl _ _ | refine bg_al ?_ | refine bg_gr ?_ | refine bg_drn ?_ | refine bg_dr ?_ | assumption))) (HK7.out b o u hp h) | exact fun b o u _ h => cell_later (w := W0) (by (repeat (first | exact Below.refl _ _ | refine bg_al ?_ | refine bg_gr ?_ | refine bg_drn ?_ | refine bg_dr ?_ | assumption))) h))
        (first
          | (go_at_call 33; refine (smudged_g (cw := W0.drew) (base := w.heap.size) (vs := (sv2 ++ (sv3 ++ sv4))) (E := [⟨.bool l4, .slice A9 n9 c9, .slice A10 n10 c10, decT b, sv2⟩, ⟨.bool l5, .slice A11 n11 c11, .slice A12 n12 c12, decT b, sv3⟩, ⟨.bool l6, .slice A13 n13 c13, .slice A14 n14 c14, zT, sv4⟩]) rfl (by rfl) hz0 (by rfl) (by simp) hbs (fun e he => by
              simp only [List.mem_cons, List.not_mem_nil, or_false] at he
              rcases he with rfl | rfl | rfl
              · exact (HRX.out.kept (by (repeat (first | exact Below.refl _ _ | refine bg_al ?_ | refine bg_gr ?_ | refine bg_drn ?_ | refine bg_dr ?_ | assumption)))).mono (fun k hk => hk)
              · exact (HRY.out.kept (by (repeat (first | exact Below.refl _ _ | refine bg_al ?_ | refine bg_gr ?_ | refine bg_drn ?_ | refine bg_dr ?_ | assumption)))).mono (fun k hk => hk)
              · exact (HRZ.out.kept (by (repeat (first | exact Below.refl _ _ | refine bg_al ?_ | refine bg_gr ?_ | refine bg_drn ?_ | refine bg_dr ?_ | assumption)))).mono (fun k hk => hk)) HO3.out HD3'.out hw3).mono ?_; rintro en w7 ⟨rfl, hc7, hb7⟩; have HK7 := Lib.hid (fun (b o : Nat) (u : Value) (hn : P b) (h : W0.cell? ⟨b, o, none⟩ = some u) => chg_cell hc7 (cell_later (w := W0) (by (repeat (first | exact Below.refl _ _ | refine bg_al ?_ | refine bg_gr ?_ | refine bg_drn ?_ | refine bg_dr ?_ | assumption))) h) (HPS.out b hn)); have HB7 := Lib.hid (HB0.out.drew.trans hb7); have HC7 := Lib.hid hc7; clear hb7 hc7)
          | (go_at_call 20; refine (apart_g (cw := w7) (base := w.heap.size) (vs := [Value.slice As2 nf cs2, .slice At2 nr ct2, .slice As3 nf cs3, .slice At3 nr ct3]) rfl (by rfl) rfl (by rfl) (by have := HB7.out.size; omega) HDA.out (fun v hv => by
            simp only [List.mem_cons, List.not_mem_nil, or_false] at hv
            rcases hv with rfl | rfl | rfl | rfl
            · exact ⟨_, (own_chg (s1.out.below (by (repeat (first | exact Below.refl _ _ | refine bg_al ?_ | refine bg_gr ?_ | refine bg_drn ?_ | refine bg_dr ?_ | assumption)))) HC7.out (fun k hk hS => (HDJ.out k ⟨0, by simp, hk⟩).2 hS)), hfl⟩
            · exact ⟨_, (own_chg (s2.out.below (by (repeat (first | exact Below.refl _ _ | refine bg_al ?_ | refine bg_gr ?_ | refine bg_drn ?_ | refine bg_dr ?_ | assumption)))) HC7.out (fun k hk hS => (HDJ.out k ⟨1, by simp, hk⟩).2 hS)), hrl⟩
            · exact ⟨_, (own_chg (s3.out.below (by (repeat (first | exact Below.refl _ _ | refine bg_al ?_ | refine bg_gr ?_ | refine bg_drn ?_ | refine bg_dr ?_ | assumption)))) HC7.out (fun k hk hS => (HDJ.out k ⟨2, by simp, hk⟩).2 hS)), hfl⟩
            · exact ⟨_, (own_chg (s4.out.below (by (repeat (first | exact Below.refl _ _ | refine bg_al ?_ | refine bg_gr ?_ | refine bg_drn ?_ | refine bg_dr ?_ | assumption)))) HC7.out (fun k hk hS => (HDJ.out k ⟨3, by simp, hk⟩).2 hS)), hrl⟩) (by omega)).mono ?_; rintro en w8 ⟨rfl, hc8, hb8⟩; have HK8 := Lib.hid (fun (b o : Nat) (u : Value) (hn : P b) (h : W0.cell? ⟨b, o, none⟩ = some u) => chg_cell hc8 (cell_later (w := w7) (by (repeat (first | exact Below.refl _ _ | refine bg_al ?_ | refine bg_gr ?_ | refine bg_drn ?_ | refine bg_dr ?_ | assumption))) (HK7.out b o u hn h)) (HPA.out b hn)); have HB8 := Lib.hid (HB7.out.trans hb8); clear hb8 hc8)
          | (have _t := ho10; refine st_anyW2 (.slice A8 (b.length + 3) c8) (W0 := w8) (base := w8.heap.size) b [1, 2, 3] bi (b.length + 3) HBI.out HBL.out (by rfl) rfl rfl (by rfl) (OwnB.below ho10 (by (repeat (first | exact Below.refl _ _ | refine bg_al ?_ | refine bg_gr ?_ | refine bg_drn ?_ | refine bg_dr ?_ | assumption)))) (by rfl) (sb_blk (by (repeat (first | (refine blk_new ?_; first | rfl | (simp only [World.size_alloc, size_gr, World.size_setCell, World.size_drew]; done) | (simp only [World.size_alloc, size_gr, World.size_setCell, World.size_drew]; omega) | omega) | refine blk_dr ?_ | refine blk_drn ?_ | refine blk_al (by simp only [World.size_alloc, size_gr, World.size_setCell, World.size_drew]; omega) ?_ | refine blk_gr (by simp only [World.size_alloc, size_gr, World.size_setCell, World.size_drew]; omega) ?_ | assumption))) rfl rfl (by decide)) (by simp only [List.length_cons, List.length_nil]; omega) (Nat.le_refl _) (by (repeat (first | exact Below.refl _ _ | refine bg_al ?_ | refine bg_gr ?_ | refine bg_drn ?_ | refine bg_dr ?_ | assumption))) (by simp only [World.size_alloc, size_gr]; omega) ?_; intro w9 A16 c16 ho11 hb11 hc11; have hcv := convS ho11.sb; have HB9 := Lib.hid hb11; have HS9 := Lib.hid (HKeep.out w9 (fun b o u hp h => cell_later (w := w8) hb11 (HK8.out b o u hp h))); clear hc11 hb11; refine ⟨?_, ?_⟩; (focus (
              refine shut_go (by assumption) HS9.out ?_
              refine wpAnyH_ready (rs := [21]) (by kernel_rfl) (by simp) (AllReadyH.cons rfl (fun K2 hK2 => ?_) AllReadyH.nil)
              go_simp
              refine shut_go hK2 HS9.out ?_
              refine wpAnyH_ready (rs := [22]) (by kernel_rfl) (by simp) (AllReadyH.cons rfl (fun K3 hK3 => ?_) AllReadyH.nil)
              go_simp
              refine shut_go hK3 HS9.out ?_
              refine wpAnyH_ready (rs := [23]) (by kernel_rfl) (by simp) (AllReadyH.cons rfl (fun K4 hK4 => ?_) AllReadyH.nil)
              go_simp
              refine shut_go hK4 HS9.out ?_
              refine wpAnyH_ready (rs := [24]) (by kernel_rfl) (by simp) (AllReadyH.cons rfl (fun K5 hK5 => ?_) AllReadyH.nil)
              go_simp
              refine shut_go hK5 HS9.out ?_
              refine wpAnyH_done (by kernel_rfl) ?_ _
              refine NoPanic.normal ?_
              go_wp2_with fail
              go_ret
              exact ⟨rfl, bel_trans HB8.out HB9.out⟩)); clear hcv)
          | (have _t := HB8; go_must (refine st_eW w8.heap.size b b.length rfl (by rfl) rfl rfl rfl (by (repeat (first | (refine blk_new ?_; first | rfl | (simp only [World.size_alloc, size_gr, World.size_setCell, World.size_drew]; done) | (simp only [World.size_alloc, size_gr, World.size_setCell, World.size_drew]; omega) | omega) | refine blk_dr ?_ | refine blk_drn ?_ | refine blk_al (by simp only [World.size_alloc, size_gr, World.size_setCell, World.size_drew]; omega) ?_ | refine blk_gr (by simp only [World.size_alloc, size_gr, World.size_setCell, World.size_drew]; omega) ?_ | assumption))) (by omega) (by rfl) ((HKb.out w8 HK8.out).below (by (repeat (first | exact Below.refl _ _ | refine bg_al ?_ | refine bg_gr ?_ | refine bg_drn ?_ | refine bg_dr ?_ | assumption)))) (by omega) ?_); intro D12 A15 c15 ho10 hk10 hc10 hm10; clear hk10))
      all_goals
        go_wp2_with fail
        go_ret
        exact ⟨rfl, bel_trans HB8.out HB9.out⟩
end Go.Proofs.Ytdhkhdeblkbojaa
