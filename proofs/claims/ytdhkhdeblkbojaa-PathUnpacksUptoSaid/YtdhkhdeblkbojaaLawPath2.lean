/- The walk of cairnlaw06.PathUnpacks. -/
import Derived.Test.YtdhkhdeblkbojaaLawPath
namespace Go.Proofs.Ytdhkhdeblkbojaa
open Go.RowKit
attribute [local go_sem ↓] Go.wp_at_zero Go.wp_at_succ

theorem unp_len (l : List UInt8) : (unpB l).length ≤ 64 := by
  unfold unpB
  cases h : unp l with
  | none => simp
  | some p =>
    match l, h with
    | x :: r, h =>
      rw [unp] at h
      split at h
      · cases h
      · split at h
        · cases h
        · cases h
          simp only
          omega

/-- the last byte's lowest bit is turned -/
def turnLast (l : List UInt8) : List UInt8 := if h : l = [] then [] else l.dropLast ++ [l.getLast h ^^^ 1]
theorem turnLast_length (l : List UInt8) : (turnLast l).length = l.length := by
  unfold turnLast
  split
  · rename_i h; rw [h]
  · rename_i h
    have : l.length ≠ 0 := by simpa using h
    simp; omega

set_option maxRecDepth 100000 in
set_option maxHeartbeats 4000000 in
theorem pathUnpacks_any (va : Value) (l : List UInt8) (w : World) (ha : SB w va l) (hl : l.length ≤ 1048576) :
    Calls Try.prog 4 #[va] w fun e w' => e = .returned (.bool true) ∧ Below w.heap.size w w' := by
  have HA := Lib.hid ha
  go_enter Try.func4, Try.ntmps4
  go_wp2_with fail
  refine (roomy_any va l w ha (by omega)).mono ?_
  rintro e w1 ⟨vn, rfl, hn, hb1⟩
  have HN := Lib.hid hn
  have HB1 := Lib.hid hb1
  clear hn hb1 ha
  go_wp2_with fail
  refine (unpack_any vn l w1 HN.out.sb (by omega)).mono ?_
  rintro e w2 ⟨vb, rfl, hob, hb2⟩
  have HO2 := Lib.hid hob
  have HB2 := Lib.hid hb2
  clear hob hb2
  go_wp2_with fail
  refine (refUnpack_any va l _ (HA.out.below (by (repeat (first | exact Below.refl _ _ | refine bel_al ?_ | refine bel_drewN ?_ _ | refine Below.drew ?_ | refine bel_trans ?_ HB2.out | refine bel_trans ?_ HB1.out))))).mono ?_
  rintro e w3 ⟨vw, rfl, how, hb3⟩
  have HO3 := Lib.hid how
  have HB3 := Lib.hid hb3
  clear how hb3
  go_wp2_with fail
  refine (same_true (HO2.out.sb.below HB3.out) HO3.out).mono ?_
  rintro e w4 ⟨rfl, n4, rfl⟩
  go_wp2_with fail
  refine (unpack_any vn l _ (HN.out.below (by (repeat (first | exact Below.refl _ _ | refine bel_al ?_ | refine bel_drewN ?_ _ | refine Below.drew ?_ | refine bel_trans ?_ HB3.out | refine bel_trans ?_ HB2.out)))).sb (by omega)).mono ?_
  rintro e w5 ⟨va2, rfl, ho5, hb5⟩
  have HO5 := Lib.hid ho5
  have HB5 := Lib.hid hb5
  clear ho5 hb5
  go_wp2_with fail
  refine (same_true HO5.out.sb (HO3.out.below (by (repeat (first | exact Below.refl _ _ | refine bel_al ?_ | refine bel_drewN ?_ _ | refine Below.drew ?_ | refine bel_trans ?_ HB5.out))))).mono ?_
  rintro e w6 ⟨rfl, n6, rfl⟩
  go_wp2_with fail
  refine (whole_any vn va l w.heap.size _ (HN.out.below (by (repeat (first | exact Below.refl _ _ | refine bel_al ?_ | refine bel_drewN ?_ _ | refine Below.drew ?_ | refine bel_trans ?_ HB5.out | refine bel_trans ?_ HB3.out | refine bel_trans ?_ HB2.out)))) (HA.out.below (by (repeat (first | exact Below.refl _ _ | refine bel_al ?_ | refine bel_drewN ?_ _ | refine Below.drew ?_ | refine bel_trans ?_ HB5.out | refine bel_trans ?_ HB3.out | refine bel_trans ?_ HB2.out | refine bel_trans ?_ HB1.out)))) (by omega)).mono ?_
  rintro e w7 ⟨rfl, n7, rfl⟩
  obtain ⟨gn, hgn, hgn1, hgn2⟩ := HN.out.block
  have hgn2 := hgn2 (by simp)
  have HR : Hid (Roomed (w5.drewN (n6 + n7)) w.heap.size vn l [77, 78, 79]) := HN.out.below (by (repeat (first | exact Below.refl _ _ | refine bel_al ?_ | refine bel_drewN ?_ _ | refine Below.drew ?_ | refine bel_trans ?_ HB5.out | refine bel_trans ?_ HB3.out | refine bel_trans ?_ HB2.out)))
  obtain ⟨g, cap, rfl, hor⟩ := HN.out
  obtain rfl : g = gn := by simpa [Value.ownBlock] using hgn
  obtain ⟨hcap, hcm⟩ := hor.cap
  simp only [List.length_append, List.length_cons, List.length_nil] at hcap
  unfold maxLen at hcm
  clear hor hgn
  go_upto_if 60 with fail
  go_cut [] (fun wx => Roomed wx w.heap.size (.slice (some ⟨g, 0, none⟩) l.length cap) (turnLast l) [77, 78, 79] ∧ Chg (· = g) (w5.drewN (n6 + n7)) wx)
  case first =>
    obtain ⟨g', cap', e', hown⟩ := HR.out
    injection e' with e1 e2 e3
    injection e1 with e1
    injection e1 with e1
    subst e1 e3
    by_cases h0 : l = []
    · have HR0 : Hid (Roomed (w5.drewN (n6 + n7)) w.heap.size (.slice (some ⟨g, 0, none⟩) l.length cap) (turnLast l) [77, 78, 79]) := by
        have := HR.out
        rw [h0] at this ⊢
        show Roomed _ _ _ _ _
        simpa [turnLast] using this
      have hl0 : ¬ (0 : Int) < (l.length : Int) := by rw [h0]; simp
      clear h0
      go_wp2
      go_meet
      case rel => exact ⟨HR0.out, Chg.refl _ _⟩
    · have hlen : 0 < l.length := by
        have : l.length ≠ 0 := by simpa using h0
        omega
      have hl0 : (0 : Int) < (l.length : Int) := by omega
      have hsplit : l = l.dropLast ++ [l.getLast h0] := (List.dropLast_concat_getLast h0).symm
      have hdl : l.dropLast.length = l.length - 1 := by simp
      have hT : turnLast l = l.dropLast ++ [l.getLast h0 ^^^ 1] := by rw [turnLast, dif_neg h0]
      have hown2 : OwnB (w5.drewN (n6 + n7)) w.heap.size (.slice (some ⟨g, 0, none⟩) (l ++ [77, 78, 79]).length cap) (l.dropLast ++ l.getLast h0 :: [77, 78, 79]) := by
        have e : l.dropLast ++ l.getLast h0 :: [77, 78, 79] = l ++ [77, 78, 79] := by
          conv => rhs; rw [hsplit]
          simp
        rw [e]
        exact hown
      have hc := hown2.at
      have hput := hown2.put (by simp; omega) (l.getLast h0 ^^^ 1)
      rw [hdl] at hc hput
      rw [← bv_xor] at hput
      have hf := hown.unfrozen (l.length - 1)
      have HP := Lib.hid hput
      have HT := Lib.hid hT
      have hi1 : (1 : Int) ≤ (l.length : Int) := by omega
      generalize l.getLast h0 = z at *
      clear hput hT hown2 hown hsplit hdl h0
      go_wp2
      go_meet
      case rel =>
        refine ⟨⟨g, cap, by rw [turnLast_length], ?_⟩, (Chg.refl (· = g) _).setCell rfl _⟩
        have e : (turnLast l ++ [77, 78, 79]).length = (l ++ [77, 78, 79]).length := by simp [turnLast_length]
        rw [e, HT.out, List.append_assoc]
        exact HP.out
  case rest =>
    obtain ⟨hn8, hc8⟩ := hcut
    have HN8 := Lib.hid hn8
    have HC8 := Lib.hid hc8
    have hs12 : w1.heap.size ≤ w2.heap.size := HB2.out.size
    have hs3 : w1.heap.size ≤ (w3.drewN n4).heap.size := Nat.le_trans hs12 HB3.out.size
    have hb8 : Below w1.heap.size w1 (w5.drewN (n6 + n7)) := by (repeat (first | exact Below.refl _ _ | refine bel_al ?_ | refine bel_drewN ?_ _ | refine Below.drew ?_ | refine bel_trans ?_ HB5.out | refine bel_trans ?_ HB3.out | refine bel_trans ?_ HB2.out))
    have hs8 := hb8.size
    have o2 : OwnB wc w.heap.size vb (unpB l) := OwnB.mono (own_chg (HO2.out.below (by (repeat (first | exact Below.refl _ _ | refine bel_al ?_ | refine bel_drewN ?_ _ | refine Below.drew ?_ | refine bel_trans ?_ HB5.out | refine bel_trans ?_ HB3.out)))) hc8 (fun k hk e => by
      have := (HO2.out.lt k hk).1
      omega)) HB1.out.size
    have o5 : OwnB wc w.heap.size va2 (unpB l) := OwnB.mono (own_chg (HO5.out.below (by (repeat (first | exact Below.refl _ _ | refine bel_al ?_ | refine bel_drewN ?_ _ | refine Below.drew ?_ | refine bel_trans ?_ HB5.out)))) hc8 (fun k hk e => by
      have := (HO5.out.lt k hk).1
      omega)) (Nat.le_trans HB1.out.size hs3)
    have d1 := own_apart HO2.out HO5.out (show w2.heap.size ≤ (w3.drewN n4).heap.size from HB3.out.size)
    have hw8 : Below w.heap.size w wc := by
      refine (HB1.out.trans (hb8.mono HB1.out.size)).trans (hc8.bel (fun k hk => by omega) ?_)
      have := HB1.out.size
      omega
    have HO2c := Lib.hid o2
    have HO5c := Lib.hid o5
    have HD1 := Lib.hid d1
    have HW8 := Lib.hid hw8
    clear hn8 hc8 hs12 hs3 hb8 hs8 o2 o5 d1 hw8
    have htl : (turnLast l).length ≤ 1048576 := by rw [turnLast_length]; exact hl
    go_wp2_with fail
    refine (unpack_any _ (turnLast l) _ HN8.out.sb (by omega)).mono ?_
    rintro e w9 ⟨vt, rfl, ho9, hb9⟩
    have HO9 := Lib.hid ho9
    have HB9 := Lib.hid hb9
    clear ho9 hb9
    go_wp2_with fail
    refine (refUnpack_any _ (turnLast l) _ (HN8.out.below (by (repeat (first | exact Below.refl _ _ | refine bel_al ?_ | refine bel_drewN ?_ _ | refine Below.drew ?_ | refine bel_trans ?_ HB9.out)))).sb).mono ?_
    rintro e w10 ⟨vx, rfl, ho10, hb10⟩
    have HO10 := Lib.hid ho10
    have HB10 := Lib.hid hb10
    clear ho10 hb10
    go_wp2_with fail
    refine (same_true (HO9.out.sb.below (by (repeat (first | exact Below.refl _ _ | refine bel_al ?_ | refine bel_drewN ?_ _ | refine Below.drew ?_ | refine bel_trans ?_ HB10.out)))) HO10.out).mono ?_
    rintro e w11 ⟨rfl, n11, rfl⟩
    have d2 := own_apart HO2c.out HO9.out (Nat.le_refl _)
    have d3 := own_apart HO5c.out HO9.out (Nat.le_refl _)
    have HF : ∀ cw, Below wc.heap.size wc cw → Below w9.heap.size w9 cw → OwnF cw w.heap.size [vb, va2, vt] (fun i => [unpB l, unpB l, unpB (turnLast l)].getD i []) := fun cw h h' =>
      ownF3 (HO2c.out.below h) (HO5c.out.below h) ((HO9.out.below h').mono HW8.out.size)
    have HFF := Lib.hid HF
    have HD := Lib.hid (dist3 HD1.out d2 d3)
    have hp1 := unp_len l
    have hp2 := unp_len (turnLast l)
    have HL : Hid (∀ i, i < [vb, va2, vt].length → ([unpB l, unpB l, unpB (turnLast l)].getD i []).length ≤ 1099511627776) := fun i hi => by
      match i, hi with
      | 0, _ => show (unpB l).length ≤ _; omega
      | 1, _ => show (unpB l).length ≤ _; omega
      | 2, _ => show (unpB (turnLast l)).length ≤ _; omega
      | i + 3, h => exact absurd h (by simp)
    clear d2 d3 HF hp1 hp2
    obtain ⟨A2, c2, e2, -⟩ := HO2.out.form
    obtain ⟨A5, c5, e5, -⟩ := HO5.out.form
    obtain ⟨A9, c9, e9, -⟩ := HO9.out.form
    have HW10 : Hid (w.heap.size ≤ (w10.drewN n11).heap.size) := by
      have h1 := HW8.out.size
      have h2 := HB9.out.size
      have h3 := HB10.out.size
      show w.heap.size ≤ w10.heap.size
      omega
    subst e2 e5 e9
    go_wp2_with fail
    refine (apart_lit (vs := [_, _, _]) _ w.heap.size rfl rfl (HFF.out _ (by (repeat (first | exact Below.refl _ _ | refine bel_al ?_ | refine bel_drewN ?_ _ | refine Below.drew ?_ | refine bel_trans ?_ HB10.out | refine bel_trans ?_ HB9.out))) (by (repeat (first | exact Below.refl _ _ | refine bel_al ?_ | refine bel_drewN ?_ _ | refine Below.drew ?_ | refine bel_trans ?_ HB10.out)))) HD.out HW10.out (by simp) HL.out).mono ?_
    rintro e w12 ⟨rfl, hb12⟩
    have HB12 := Lib.hid hb12
    clear hb12
    go_wp2_with fail
    refine (fixed06_any _).mono ?_
    rintro e w13 ⟨rfl, hb13⟩
    have HB13 := Lib.hid hb13
    clear hb13
    go_wp2_with fail
    go_ret
    refine ⟨rfl, ?_⟩
    have h1 : Below w.heap.size w (w10.drewN n11) := HW8.out.trans ((show Below wc.heap.size wc (w10.drewN n11) by (repeat (first | exact Below.refl _ _ | refine bel_al ?_ | refine bel_drewN ?_ _ | refine Below.drew ?_ | refine bel_trans ?_ HB10.out | refine bel_trans ?_ HB9.out))).mono HW8.out.size)
    have h2 := h1.trans HB12.out
    exact h2.trans (HB13.out.mono h2.size)
end Go.Proofs.Ytdhkhdeblkbojaa
