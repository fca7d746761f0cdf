/- rlp.Encode. -/
import Derived.Test.YtdhkhdeblkbojaaRlpForm2
namespace Go.Proofs.Ytdhkhdeblkbojaa
open Go.RowKit
attribute [local go_sem ↓] Go.wp_at_zero Go.wp_at_succ

def encR (x : It) : List UInt8 × Int := if deepI x 80 = true then ([], 53) else if mayI x = false then ([], 52) else if 1048576 < sizeI x then ([], 54) else (formI x, 0)

set_option maxRecDepth 100000 in
set_option maxHeartbeats 2000000 in
theorem encode_any {w : World} {T : Nat → Prop} {v0 v1 v2 : Value} {x : It} {sv : List Value} (h : RdI w T v0 v1 v2 x sv) (hwt : wtI x ≤ 1099511627776) :
    Calls Try.prog 25 #[.agg #[v0, v1, v2]] w fun e w' => ∃ v, e = .returned (.tuple #[v, .int .i64 (encR x).2]) ∧ OwnB w' w.heap.size v (encR x).1 ∧ Below w.heap.size w w' := by
  obtain ⟨l', A1, n1, cc1, A2, n2, cc2, rfl, rfl, rfl⟩ := h.form
  have HI := Lib.hid h
  have hal : Below w.heap.size w (w.alloc (.cells #[.bool l', .slice A1 n1 cc1, .slice A2 n2 cc2] 46)) := (Below.refl _ _).alloc (Nat.le_refl _) _
  have hbox := heap_alloc_new w (.cells #[.bool l', .slice A1 n1 cc1, .slice A2 n2 cc2] 46)
  have hwa : (w.alloc (.cells #[.bool l', .slice A1 n1 cc1, .slice A2 n2 cc2] 46)).heap.size = w.heap.size + 1 := by simp
  have hsl := sizeI_le x hwt
  have HAL := Lib.hid hal
  have HBox := Lib.hid hbox
  have hsz : sizeI x ≤ 1099511627776 := by omega
  clear h hal hbox hsl
  go_enter Try.func25, Try.ntmps25
  go_wp2_with fail
  generalize w.alloc (.cells #[.bool l', .slice A1 n1 cc1, .slice A2 n2 cc2] 46) = wa at HAL HBox hwa ⊢
  refine (deeper_any HI.out wa 80 HAL.out (Nat.le_refl _)).mono ?_
  rintro en w1 ⟨rfl, hb1⟩
  have HB1 := Lib.hid (bel_trans HAL.out hb1)
  have kb := cell_of_row w1 w.heap.size 0 _ _ _ ((hb1.block _ (by omega)).trans HBox.out)
  have kb1 := cell_of_row w1 w.heap.size 1 _ _ _ ((hb1.block _ (by omega)).trans HBox.out)
  have kb2 := cell_of_row w1 w.heap.size 2 _ _ _ ((hb1.block _ (by omega)).trans HBox.out)
  have hz1 := hb1.size
  have HBox1 := Lib.hid ((hb1.block _ (by omega)).trans HBox.out)
  simp only [List.getElem?_toArray, List.getElem?_cons_zero, List.getElem?_cons_succ] at kb kb1 kb2
  clear hb1
  cases hd : deepI x 80 with
  | true =>
    have hfin : Hid (encR x = ([], 53)) := by show _ = _; rw [encR, if_pos hd]
    clear hd
    go_wp2_with fail
    refine bodyPost_ret (v := .tuple #[.slice none 0 0, .int .i64 53]) (by simp [results, Try.results25, go_sem]) rfl ?_
    rw [hfin.out]
    exact ⟨_, rfl, OwnB.nil _ _, HB1.out⟩
  | false =>
    have HD := Lib.hid hd
    clear hd
    go_wp2_with fail
    refine (may_any HI.out w1 HB1.out).mono ?_
    rintro en w2 ⟨rfl, hb2⟩
    have HB2 := Lib.hid (bel_trans HB1.out hb2)
    have kc := cell_of_row w2 w.heap.size 0 _ _ _ ((hb2.block _ (by omega)).trans HBox1.out)
    have kc1 := cell_of_row w2 w.heap.size 1 _ _ _ ((hb2.block _ (by omega)).trans HBox1.out)
    have kc2 := cell_of_row w2 w.heap.size 2 _ _ _ ((hb2.block _ (by omega)).trans HBox1.out)
    have hz2 := hb2.size
    have HBox2 := Lib.hid ((hb2.block _ (by omega)).trans HBox1.out)
    simp only [List.getElem?_toArray, List.getElem?_cons_zero, List.getElem?_cons_succ] at kc kc1 kc2
    clear hb2
    cases hm : mayI x with
    | false =>
      have hfin : Hid (encR x = ([], 52)) := by show _ = _; rw [encR, HD.out, hm]; rfl
      clear hm
      go_wp2_with fail
      refine bodyPost_ret (v := .tuple #[.slice none 0 0, .int .i64 52]) (by simp [results, Try.results25, go_sem]) rfl ?_
      rw [hfin.out]
      exact ⟨_, rfl, OwnB.nil _ _, HB2.out⟩
    | true =>
      have HM := Lib.hid hm
      clear hm
      go_wp2_with fail
      refine (size_any HI.out w2 HB2.out hwt).mono ?_
      rintro en w3 ⟨rfl, hb3⟩
      have HB3 := Lib.hid (bel_trans HB2.out hb3)
      have kd := cell_of_row w3 w.heap.size 0 _ _ _ ((hb3.block _ (by omega)).trans HBox2.out)
      have kd1 := cell_of_row w3 w.heap.size 1 _ _ _ ((hb3.block _ (by omega)).trans HBox2.out)
      have kd2 := cell_of_row w3 w.heap.size 2 _ _ _ ((hb3.block _ (by omega)).trans HBox2.out)
      have hz3 := hb3.size
      simp only [List.getElem?_toArray, List.getElem?_cons_zero, List.getElem?_cons_succ] at kd kd1 kd2
      clear hb3
      by_cases hs : 1048576 < sizeI x
      · have hs' : (1048576 : Int) < (sizeI x : Int) := by omega
        have hfin : Hid (encR x = ([], 54)) := by show _ = _; rw [encR, HD.out, HM.out, if_pos hs]; rfl
        clear hs
        go_wp2_with fail
        refine bodyPost_ret (v := .tuple #[.slice none 0 0, .int .i64 54]) (by simp [results, Try.results25, go_sem]) rfl ?_
        rw [hfin.out]
        exact ⟨_, rfl, OwnB.nil _ _, HB3.out⟩
      · have hs' : ¬ (1048576 : Int) < (sizeI x : Int) := by omega
        have hfin : Hid (encR x = (formI x, 0)) := by show _ = _; rw [encR, HD.out, HM.out, if_neg hs]; rfl
        clear hs
        go_wp2_with fail
        refine (form_any HI.out w3 w.heap.size (.slice none 0 0) [] HB3.out (Nat.le_refl _) HB3.out.size (OwnB.nil _ _) (by simpa using hwt)).mono ?_
        rintro en w4 ⟨v, rfl, ho, hch⟩
        have HO := Lib.hid ho
        have HCH := Lib.hid hch
        clear ho hch
        go_wp2_with fail
        refine bodyPost_ret (v := .tuple #[v, .int .i64 0]) (by simp [results, Try.results25, go_sem]) rfl ?_
        rw [hfin.out]
        exact ⟨_, rfl, by simpa using HO.out, HB3.out.trans (HCH.out.bel (fun k hk => by simp [Value.ownBlock] at hk) HB3.out.size)⟩
end Go.Proofs.Ytdhkhdeblkbojaa
