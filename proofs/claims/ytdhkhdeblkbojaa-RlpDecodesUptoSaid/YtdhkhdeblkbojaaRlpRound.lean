/- The walk of cairnlaw05.RlpRound . -/
import Derived.Test.YtdhkhdeblkbojaaRlpLaw5
import Derived.Test.YtdhkhdeblkbojaaRlpAwake
namespace Go.Proofs.Ytdhkhdeblkbojaa
open Go.RowKit
attribute [local go_sem ↓] Go.wp_at_zero Go.wp_at_succ

set_option maxRecDepth 100000 in
set_option maxHeartbeats 4000000 in
theorem round_walk {w : World} {T : Nat → Prop} {v0 v1 v2 vb : Value} {x : It} {b : List UInt8} {sv : List Value} (h : RdI w T v0 v1 v2 x sv) (hwt : wtI x ≤ 1099511627776) (hb : SB w vb b) (hl : b.length ≤ 1099511627776) :
    Calls Try.prog 6 #[.agg #[v0, v1, v2], vb] w fun e w' => e = .returned (.bool true) ∧ Below w.heap.size w w' := by
  obtain ⟨l', A1, n1, cc1, A2, n2, cc2, rfl, rfl, rfl⟩ := h.form
  have HX := Lib.hid h
  have HSb := Lib.hid hb
  obtain ⟨A, cb, rfl, -⟩ := hb
  have hal : Below w.heap.size w (w.alloc (.cells #[.bool l', .slice A1 n1 cc1, .slice A2 n2 cc2] 42)) := (Below.refl _ _).alloc (Nat.le_refl _) _
  have hbox := heap_alloc_new w (.cells #[.bool l', .slice A1 n1 cc1, .slice A2 n2 cc2] 42)
  have hwa : (w.alloc (.cells #[.bool l', .slice A1 n1 cc1, .slice A2 n2 cc2] 42)).heap.size = w.heap.size + 1 := by simp
  have HAL := Lib.hid hal
  have HBox := Lib.hid hbox
  clear h hal hbox
  go_enter Try.func6, Try.ntmps6
  go_wp2_with fail
  generalize w.alloc (.cells #[.bool l', .slice A1 n1 cc1, .slice A2 n2 cc2] 42) = wa at HAL HBox hwa ⊢
  refine (awake_any wa).mono ?_
  rintro en w1 ⟨rfl, hb1⟩
  have HB1 := Lib.hid (bel_trans HAL.out hb1)
  have hx1 := (hb1.block w.heap.size (by omega)).trans HBox.out
  have HBox1 := Lib.hid hx1
  have hz1 := hb1.size
  have k0 : w1.cell? ⟨w.heap.size, 0, none⟩ = some (.bool l') := cell_of_row w1 w.heap.size 0 _ _ _ hx1
  have k1 : w1.cell? ⟨w.heap.size, 1, none⟩ = some (.slice A1 n1 cc1) := cell_of_row w1 w.heap.size 1 _ _ _ hx1
  have k2 : w1.cell? ⟨w.heap.size, 2, none⟩ = some (.slice A2 n2 cc2) := cell_of_row w1 w.heap.size 2 _ _ _ hx1
  clear hb1 hx1
  go_wp2_with fail
  refine (item_any HX.out w1 HB1.out hwt).mono ?_
  rintro en w2 ⟨u0, u1, u2, sv2, rfl, hit, hos, hmk, hb2⟩
  obtain ⟨l3, A3, n3, c3, A4, n4, c4, rfl, rfl, rfl⟩ := hit.form
  have HIT := Lib.hid hit
  have HB2 := Lib.hid (bel_trans HB1.out hb2)
  have hx2 := (hb2.block w.heap.size (by omega)).trans HBox1.out
  have HBox2 := Lib.hid hx2
  have hz2 := hb2.size
  clear hit hos hmk hb2 hx2 k0 k1 k2
  go_wp2_with fail
  refine (encode_any HIT.out hwt).mono ?_
  rintro en w3 ⟨v, rfl, ho, hb3⟩
  have HB3 := Lib.hid (bel_trans HB2.out hb3)
  have HO := Lib.hid ho
  have hx3 := (hb3.block w.heap.size (by omega)).trans HBox2.out
  have HBox3 := Lib.hid hx3
  have hz3 := hb3.size
  clear hb3 ho hx3
  by_cases he : (encR x).2 = 0
  · have hf : encR x = ((encR x).1, 0) := by rw [← he]
    obtain ⟨hdec, hfl, hfp⟩ := dec_enc hwt hf
    obtain ⟨Af, cf, rfl, -⟩ := HO.out.form
    have hDf := decode_any _ (encR x).1 w3 HO.out.sb (by omega)
    rw [hdec] at hDf
    have HDf := Lib.hid hDf
    have he' : ((encR x).2 == 0) = true := by simpa using he
    have HEq := Lib.hid he
    clear he hf hdec hDf
    generalize (encR x).2 = ec at he' HEq ⊢
    go_wp2_with fail
    refine HDf.out.mono ?_
    rintro en w4 ⟨y0, y1, y2, sv4, rfl, hz, hos4, hb4⟩
    obtain ⟨l5, A5, n5, c5, A6, n6, c6, rfl, rfl, rfl⟩ := hz.form
    have hal4 : Below w4.heap.size w4 (w4.alloc (.cells #[.bool l5, .slice A5 n5 c5, .slice A6 n6 c6] 46)) := (Below.refl _ _).alloc (Nat.le_refl _) _
    have hB5 := bel_trans (bel_trans HB3.out hb4) hal4
    have HB5 := Lib.hid hB5
    have hx5 := (hal4.block w.heap.size (by have := hb4.size; omega)).trans ((hb4.block w.heap.size (by omega)).trans HBox3.out)
    have hy5 := heap_alloc_new w4 (.cells #[.bool l5, .slice A5 n5 c5, .slice A6 n6 c6] 46)
    have hZ5 := hz.kept hal4
    have HZ5 := Lib.hid hZ5
    have HX5 := Lib.hid hx5
    have HY5 := Lib.hid hy5
    clear hb4 hal4 hB5 hx5 hy5 hZ5 hz hos4 HDf
    go_wp2_with fail
    generalize w4.alloc (.cells #[.bool l5, .slice A5 n5 c5, .slice A6 n6 c6] 46) = w5 at HB5 HZ5 HX5 HY5 ⊢
    have x0 : w5.cell? ⟨w.heap.size, 0, none⟩ = some (.bool l') := cell_of_row w5 w.heap.size 0 _ _ _ HX5.out
    have x1 : w5.cell? ⟨w.heap.size, 1, none⟩ = some (.slice A1 n1 cc1) := cell_of_row w5 w.heap.size 1 _ _ _ HX5.out
    have x2 : w5.cell? ⟨w.heap.size, 2, none⟩ = some (.slice A2 n2 cc2) := cell_of_row w5 w.heap.size 2 _ _ _ HX5.out
    have y0 : w5.cell? ⟨w4.heap.size, 0, none⟩ = some (.bool l5) := cell_of_row w5 w4.heap.size 0 _ _ _ HY5.out
    have y1 : w5.cell? ⟨w4.heap.size, 1, none⟩ = some (.slice A5 n5 c5) := cell_of_row w5 w4.heap.size 1 _ _ _ HY5.out
    have y2 : w5.cell? ⟨w4.heap.size, 2, none⟩ = some (.slice A6 n6 c6) := cell_of_row w5 w4.heap.size 2 _ _ _ HY5.out
    go_region_held3 (fun W => W.cell? ⟨w.heap.size, 0, none⟩ = some (.bool l') ∧ W.cell? ⟨w.heap.size, 1, none⟩ = some (.slice A1 n1 cc1) ∧ W.cell? ⟨w.heap.size, 2, none⟩ = some (.slice A2 n2 cc2) ∧ W.cell? ⟨w4.heap.size, 0, none⟩ = some (.bool l5) ∧ W.cell? ⟨w4.heap.size, 1, none⟩ = some (.slice A5 n5 c5) ∧ W.cell? ⟨w4.heap.size, 2, none⟩ = some (.slice A6 n6 c6))
      (first | exact ⟨x0, x1, x2, y0, y1, y2⟩ | exact ⟨cell_later hb7 x0, cell_later hb7 x1, cell_later hb7 x2, cell_later hb7 y0, cell_later hb7 y1, cell_later hb7 y2⟩ | exact ⟨cell_later hb8 (cell_later hb7 x0), cell_later hb8 (cell_later hb7 x1), cell_later hb8 (cell_later hb7 x2), cell_later hb8 (cell_later hb7 y0), cell_later hb8 (cell_later hb7 y1), cell_later hb8 (cell_later hb7 y2)⟩)
      (first
        | (go_at_call 29; refine (back_any HZ5.out _ (bel_drewN (Below.refl _ _) 1) hwt).mono ?_; rintro en w7 ⟨q0, q1, q2, sv7, rfl, hit7, hos7, hb7'⟩; have hb7 := bel_undrewN (n := 1) hb7'; obtain ⟨l7, A7, n7, c7, A8, n8, c8, rfl, rfl, rfl⟩ := hit7.form; clear hb7')
        | (go_at_call 28; refine (items_same hit7 w7 T _ _ _ x sv (Below.refl _ _) (HX.out.kept (bel_trans HB5.out hb7))).mono ?_; rintro en w8 ⟨rfl, hb8⟩; have hsm : sameI x x = true := sameI_eq.2 rfl; rw [hsm]))
    all_goals
      have hB8 := bel_trans (bel_trans HB5.out hb7) hb8
      have HB8 := Lib.hid hB8
      clear hB8 hb7 hb8
      go_upto_region 8 with (fail)
      have HSb8 := Lib.hid (HSb.out.below HB8.out)
      have HD := Lib.hid (decode_any _ b w8 HSb8.out hl)
      cases hd : decR b with
      | bad p c =>
        obtain ⟨hp, hc1, hc2⟩ := decR_bad hd
        rw [hd] at HD
        clear hd
        go_wp2_with fail
        refine HD.out.mono ?_
        rintro en w4 ⟨rfl, hb4⟩
        have HB4 := Lib.hid (bel_trans HB8.out hb4)
        have hne : ¬ c = 0 := by omega
        have hne' : (c == 0) = false := by simp [hne]
        have hpl : (p : Int) ≤ (b.length : Int) := by omega
        have hp0 : (0 : Int) ≤ (p : Int) := by omega
        clear hb4 HD
        go_wp2_with fail
        go_ret
        exact ⟨rfl, bel_trans HB4.out ((Below.refl _ _).alloc (Nat.le_refl _) _)⟩
      | ok z q =>
        obtain ⟨hwz, hbz⟩ := wt_dec hd
        have henc := enc_dec hd
        rw [hd] at HD
        clear hd
        go_wp2_with fail
        refine HD.out.mono ?_
        rintro en w4 ⟨y0, y1, y2, sv4, rfl, hz, hos4, hb4⟩
        obtain ⟨l5, A5, n5, c5, A6, n6, c6, rfl, rfl, rfl⟩ := hz.form
        have HB4 := Lib.hid (bel_trans HB8.out hb4)
        have HSb4 := Lib.hid (HSb8.out.below hb4)
        have hal4 : Below w4.heap.size w4 (w4.alloc (.cells #[.bool l5, .slice A5 n5 c5, .slice A6 n6 c6] 46)) := (Below.refl _ _).alloc (Nat.le_refl _) _
        have HZ := Lib.hid (hz.kept hal4)
        have HSb5 := Lib.hid (HSb4.out.below hal4)
        have HB5 := Lib.hid (bel_trans HB4.out hal4)
        clear hb4 HD hz hos4 hal4
        go_wp2_with fail
        have hE := encode_any HZ.out (by omega)
        rw [henc] at hE
        refine hE.mono ?_
        rintro en w6 ⟨v6, rfl, ho6, hb6⟩
        obtain ⟨A7, c7, rfl, hr7, -⟩ := ho6.sb
        have hcv1 := conv_any c7 hr7
        obtain ⟨A8, c8, e8, hr8, -⟩ := (HSb5.out.below hb6)
        injection e8 with e1 e2 e3
        subst e1 e3
        have hcv2 := conv_any cb hr8
        have HB6 := Lib.hid (bel_trans HB5.out hb6)
        clear hE ho6 hb6 hr7 hr8 e2 henc
        go_wp2_with fail
        go_ret
        exact ⟨rfl, HB6.out⟩
  · have he' : ((encR x).2 == 0) = false := by simpa using he
    clear he
    generalize (encR x).2 = ec at he' ⊢
    go_upto_region 8 with (fail)
    have HSb3 := Lib.hid (HSb.out.below HB3.out)
    have HD := Lib.hid (decode_any _ b w3 HSb3.out hl)
    cases hd : decR b with
    | bad p c =>
      obtain ⟨hp, hc1, hc2⟩ := decR_bad hd
      rw [hd] at HD
      clear hd
      go_wp2_with fail
      refine HD.out.mono ?_
      rintro en w4 ⟨rfl, hb4⟩
      have HB4 := Lib.hid (bel_trans HB3.out hb4)
      have hne : ¬ c = 0 := by omega
      have hne' : (c == 0) = false := by simp [hne]
      have hpl : (p : Int) ≤ (b.length : Int) := by omega
      have hp0 : (0 : Int) ≤ (p : Int) := by omega
      clear hb4 HD
      go_wp2_with fail
      go_ret
      exact ⟨rfl, bel_trans HB4.out ((Below.refl _ _).alloc (Nat.le_refl _) _)⟩
    | ok z q =>
      obtain ⟨hwz, hbz⟩ := wt_dec hd
      have henc := enc_dec hd
      rw [hd] at HD
      clear hd
      go_wp2_with fail
      refine HD.out.mono ?_
      rintro en w4 ⟨y0, y1, y2, sv4, rfl, hz, hos4, hb4⟩
      obtain ⟨l5, A5, n5, c5, A6, n6, c6, rfl, rfl, rfl⟩ := hz.form
      have HB4 := Lib.hid (bel_trans HB3.out hb4)
      have HSb4 := Lib.hid (HSb3.out.below hb4)
      have hal4 : Below w4.heap.size w4 (w4.alloc (.cells #[.bool l5, .slice A5 n5 c5, .slice A6 n6 c6] 46)) := (Below.refl _ _).alloc (Nat.le_refl _) _
      have HZ := Lib.hid (hz.kept hal4)
      have HSb5 := Lib.hid (HSb4.out.below hal4)
      have HB5 := Lib.hid (bel_trans HB4.out hal4)
      clear hb4 HD hz hos4 hal4
      go_wp2_with fail
      have hE := encode_any HZ.out (by omega)
      rw [henc] at hE
      refine hE.mono ?_
      rintro en w6 ⟨v6, rfl, ho6, hb6⟩
      obtain ⟨A7, c7, rfl, hr7, -⟩ := ho6.sb
      have hcv1 := conv_any c7 hr7
      obtain ⟨A8, c8, e8, hr8, -⟩ := (HSb5.out.below hb6)
      injection e8 with e1 e2 e3
      subst e1 e3
      have hcv2 := conv_any cb hr8
      have HB6 := Lib.hid (bel_trans HB5.out hb6)
      clear hE ho6 hb6 hr7 hr8 e2 henc
      go_wp2_with fail
      go_ret
      exact ⟨rfl, HB6.out⟩
end Go.Proofs.Ytdhkhdeblkbojaa
