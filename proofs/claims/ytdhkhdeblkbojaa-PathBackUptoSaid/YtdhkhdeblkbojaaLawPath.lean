/- Walks of cairnlaw06's laws on paths. -/
import Derived.Test.YtdhkhdeblkbojaaPath4
import Derived.Test.YtdhkhdeblkbojaaApart
namespace Go.Proofs.Ytdhkhdeblkbojaa
open Go.RowKit
attribute [local go_sem ↓] Go.wp_at_zero Go.wp_at_succ

theorem bel_al {w a : World} (h : Below w.heap.size w a) {o : Obj} : Below w.heap.size w (a.alloc o) := h.alloc h.size o
/-- a literal of bytes in a new block -/
theorem lit_own (w : World) (l : List UInt8) (cs : Array Value) {g : Nat} (hg : w.heap.size = g) (hl : cs.toList = l.map bv) (hm : l.length ≤ maxLen) : OwnB (w.alloc (.cells cs 5)) w.heap.size (.slice (some ⟨g, 0, none⟩) l.length l.length) l := by
  have hs : cs.size = l.length := by
    have := congrArg List.length hl
    simpa using this
  exact OwnB.of (own_lit_at w cs 5 hg (Nat.le_refl _) hm (by omega)) hl

theorem same_true {va vb : Value} {l : List UInt8} {w : World} (ha : SB w va l) (hb : SB w vb l) : Calls Try.prog 17 #[va, vb] w fun e w' => e = .returned (.bool true) ∧ ∃ n, w' = w.drewN n :=
  (same_any va vb l l w ha hb).mono fun _ _ ⟨he, hw⟩ => ⟨by rw [he]; simp, hw⟩

set_option maxRecDepth 100000 in
set_option maxHeartbeats 1000000 in
theorem fixed06_any (w : World) : Calls Try.prog 21 #[] w fun e w' => e = .returned (.bool true) ∧ Below w.heap.size w w' := by
  have p1 : packB [1, 2, 3, 4] true = [32, 18, 52] := by decide
  have p2 : packE [1, 2, 3, 4] = 0 := by decide
  have p3 : unpB [17, 35] = [1, 2, 3] := by decide
  have p4 : unpE [17, 35] = 0 := by decide
  have p5 : unpL [17, 35] = false := by decide
  have HP := Lib.hid (And.intro p1 (And.intro p2 (And.intro p3 (And.intro p4 p5))))
  clear p1 p2 p3 p4 p5
  go_enter Try.func21, Try.ntmps21
  go_wp2_with fail
  refine (pack_any _ [1, 2, 3, 4] true _ (lit_own w [1, 2, 3, 4] _ rfl rfl (by simp [maxLen])).sb).mono ?_
  rintro e w1 ⟨v1, rfl, ho1, hb1⟩
  rw [HP.out.2.1]
  rw [HP.out.1] at ho1
  have HO1 := Lib.hid ho1
  have hbel1 : Below w.heap.size w w1 := bel_trans ((Below.refl _ _).alloc (Nat.le_refl _) _) hb1
  have HB1 := Lib.hid hbel1
  clear ho1 hb1 hbel1
  go_wp2_with fail
  refine (unpack_any _ [17, 35] _ (lit_own w1 [17, 35] _ rfl rfl (by simp [maxLen])).sb (by simp)).mono ?_
  rintro e w2 ⟨v2, rfl, ho2, hb2⟩
  rw [HP.out.2.2.2.1, HP.out.2.2.2.2]
  rw [HP.out.2.2.1] at ho2
  have HO2 := Lib.hid ho2
  have hbel2 : Below w1.heap.size w1 w2 := bel_trans ((Below.refl _ _).alloc (Nat.le_refl _) _) hb2
  have HB2 := Lib.hid hbel2
  clear ho2 hb2 hbel2
  go_wp2_with fail
  refine (same_true ((HO1.out.sb.below HB2.out).below ((Below.refl _ _).alloc (Nat.le_refl _) _)) (lit_own w2 [32, 18, 52] _ rfl rfl (by simp [maxLen])).sb).mono ?_
  rintro e w3 ⟨rfl, n, rfl⟩
  go_wp2_with fail
  refine (same_true (l := [1, 2, 3]) ?_ ?_).mono ?_
  · refine HO2.out.sb.below ?_
    (repeat (first | exact Below.refl _ _ | refine bel_al ?_ | refine bel_drewN ?_ _ | refine Below.drew ?_ | assumption))
  · exact (lit_own _ [1, 2, 3] _ (by simp) rfl (by simp [maxLen])).sb
  · rintro e w4 ⟨rfl, n4, rfl⟩
    go_wp2_with fail
    go_ret
    refine ⟨rfl, ?_⟩
    have h1 := bel_trans HB1.out HB2.out
    (repeat (first | exact Below.refl _ _ | refine bel_al ?_ | refine bel_drewN ?_ _ | refine Below.drew ?_ | assumption))

theorem Below.wide {w : World} {B : Nat} {a b : World} (h : Below B w a) (k : Below a.heap.size a b) (hB : B ≤ a.heap.size) : Below B w b := h.trans (k.mono hB)

/-- Apart over a literal list of rows. -/
theorem apart_lit {vs : List Value} {cs : Array Value} {cw : World} {g : Nat} (f : Nat → List UInt8) (base : Nat) (hcs : cs.toList = vs) (hg : cw.heap.size = g) (hF : OwnF cw base vs f) (hD : Dist vs) (hbase : base ≤ cw.heap.size)
    (hm : vs.length ≤ 1099511627776) (hf : ∀ i, i < vs.length → (f i).length ≤ 1099511627776) :
    Calls Try.prog 20 #[.slice (some ⟨g, 0, none⟩) vs.length vs.length] (cw.alloc (.cells cs 22)) fun e w' => e = .returned (.bool true) ∧ Below base cw w' := by
  subst hcs
  have hrow := own_lit_at cw cs 22 (size := 1) (n := cs.toList.length) (base := base) hg hbase (by simp only [maxLen]; omega) (by simp)
  obtain ⟨A, c, hv, hr, _, _, ha⟩ := RdV.own hrow
  injection hv with hA _ _
  have hal : Below cw.heap.size cw (cw.alloc (.cells cs 22)) := (Below.refl _ _).alloc (Nat.le_refl _) _
  subst hA
  refine (apart_any (some ⟨g, 0, none⟩) cs.toList.length cs.toList f base _ hr (fun a ha => ?_) (fun i hi => own_below (hF i hi) hal) hD (by simp; omega) hm hf).mono fun e w' ⟨he, hc⟩ => ⟨he, ?_⟩
  · cases ha
    rintro ⟨i, hi, hb⟩
    have := ((hF i hi).lt _ hb).2
    simp at this
    omega
  · have hc' : Below base (cw.alloc (.cells cs 22)) w' := hc.bel (fun k ⟨i, hi, hb⟩ => ((hF i hi).lt _ hb).1) (by simp; omega)
    exact (hal.mono hbase).trans hc'
theorem own_apart {w1 w2 : World} {b1 b2 : Nat} {e1 e2 : TypeId} {s1 s2 : Nat} {v1 v2 : Value} {n1 n2 : Nat} {x1 x2 : List Value} (h1 : w1.ownsRow b1 e1 s1 v1 n1 x1) (h2 : w2.ownsRow b2 e2 s2 v2 n2 x2) (h : w1.heap.size ≤ b2) : (∀ g, v1.ownBlock = some g → v2.ownBlock ≠ some g) ∧ (∀ g, v2.ownBlock = some g → v1.ownBlock ≠ some g) :=
  ⟨fun g hg hg' => by have := (h1.lt g hg).2; have := (h2.lt g hg').1; omega, fun g hg hg' => by have := (h1.lt g hg').2; have := (h2.lt g hg).1; omega⟩
theorem dist3 {a b c : Value} (h1 : (∀ g, a.ownBlock = some g → b.ownBlock ≠ some g) ∧ (∀ g, b.ownBlock = some g → a.ownBlock ≠ some g)) (h2 : (∀ g, a.ownBlock = some g → c.ownBlock ≠ some g) ∧ (∀ g, c.ownBlock = some g → a.ownBlock ≠ some g)) (h3 : (∀ g, b.ownBlock = some g → c.ownBlock ≠ some g) ∧ (∀ g, c.ownBlock = some g → b.ownBlock ≠ some g)) : Dist [a, b, c] := fun i j hi hj hij g hg => by
  match i, j, hi, hj with
  | 0, 1, _, _ => exact h1.1 g hg
  | 1, 0, _, _ => exact h1.2 g hg
  | 0, 2, _, _ => exact h2.1 g hg
  | 2, 0, _, _ => exact h2.2 g hg
  | 1, 2, _, _ => exact h3.1 g hg
  | 2, 1, _, _ => exact h3.2 g hg
  | 0, 0, _, _ => exact (hij rfl).elim
  | 1, 1, _, _ => exact (hij rfl).elim
  | 2, 2, _, _ => exact (hij rfl).elim
  | i + 3, _, h, _ => exact absurd h (by simp)
  | _, j + 3, _, h => exact absurd h (by simp)
theorem ownF3 {w : World} {base : Nat} {a b c : Value} {la lb lc : List UInt8} (h1 : OwnB w base a la) (h2 : OwnB w base b lb) (h3 : OwnB w base c lc) : OwnF w base [a, b, c] (fun i => [la, lb, lc].getD i []) := fun i hi => by
  match i, hi with
  | 0, _ => exact h1
  | 1, _ => exact h2
  | 2, _ => exact h3
  | i + 3, h => exact absurd h (by simp)
theorem Roomed.block {w : World} {base : Nat} {v : Value} {l tail : List UInt8} (h : Roomed w base v l tail) : ∃ g, v.ownBlock = some g ∧ base ≤ g ∧ (l ++ tail ≠ [] → g < w.heap.size) := by
  obtain ⟨g, cap, rfl, ho⟩ := h
  refine ⟨g, rfl, ?_, fun _ => ?_⟩
  · exact (ho.lt g rfl).1
  · exact (ho.lt g rfl).2
theorem pack_len (l : List UInt8) (leaf : Bool) : (packB l leaf).length ≤ 40 := by
  unfold packB
  split
  · rename_i h
    have hl : l.length ≤ 64 := by
      simp only [good, Bool.and_eq_true, decide_eq_true_eq] at h
      exact h.1
    have := pre_length l.length leaf
    rw [unnibs_length, List.length_append]; omega
  · simp

set_option maxRecDepth 100000 in
set_option maxHeartbeats 4000000 in
theorem pathPacks_any (va : Value) (l : List UInt8) (leaf : Bool) (w : World) (ha : SB w va l) (hl : l.length ≤ 140737488351232) :
    Calls Try.prog 3 #[va, .bool leaf] w fun e w' => e = .returned (.bool true) ∧ Below w.heap.size w w' := by
  have HA := Lib.hid ha
  go_enter Try.func3, Try.ntmps3
  go_wp2_with fail
  refine (roomy_any va l w ha hl).mono ?_
  rintro e w1 ⟨vn, rfl, hn, hb1⟩
  have HN := Lib.hid hn
  have HB1 := Lib.hid hb1
  clear hn hb1 ha
  go_wp2_with fail
  refine (pack_any vn l leaf w1 HN.out.sb).mono ?_
  rintro e w2 ⟨vb, rfl, hob, hb2⟩
  have HO2 := Lib.hid hob
  have HB2 := Lib.hid hb2
  clear hob hb2
  go_wp2_with fail
  refine (refPack_any va l leaf _ (HA.out.below (by (repeat (first | exact Below.refl _ _ | refine bel_al ?_ | refine bel_drewN ?_ _ | refine Below.drew ?_ | refine bel_trans ?_ HB2.out | refine bel_trans ?_ HB1.out))))).mono ?_
  rintro e w3 ⟨vw, rfl, how, hb3⟩
  have HO3 := Lib.hid how
  have HB3 := Lib.hid hb3
  clear how hb3
  go_wp2_with fail
  refine (same_true (HO2.out.sb.below HB3.out) HO3.out.sb).mono ?_
  rintro e w4 ⟨rfl, n4, rfl⟩
  go_wp2_with fail
  refine (pack_any vn l leaf _ (HN.out.below (by (repeat (first | exact Below.refl _ _ | refine bel_al ?_ | refine bel_drewN ?_ _ | refine Below.drew ?_ | refine bel_trans ?_ HB3.out | refine bel_trans ?_ HB2.out)))).sb).mono ?_
  rintro e w5 ⟨va2, rfl, ho5, hb5⟩
  have HO5 := Lib.hid ho5
  have HB5 := Lib.hid hb5
  clear ho5 hb5
  go_wp2_with fail
  refine (same_true HO5.out.sb (HO3.out.sb.below (by (repeat (first | exact Below.refl _ _ | refine bel_al ?_ | refine bel_drewN ?_ _ | refine Below.drew ?_ | refine bel_trans ?_ HB5.out))))).mono ?_
  rintro e w6 ⟨rfl, n6, rfl⟩
  go_wp2_with fail
  refine (whole_any vn va l w.heap.size _ (HN.out.below (by (repeat (first | exact Below.refl _ _ | refine bel_al ?_ | refine bel_drewN ?_ _ | refine Below.drew ?_ | refine bel_trans ?_ HB5.out | refine bel_trans ?_ HB3.out | refine bel_trans ?_ HB2.out)))) (HA.out.below (by (repeat (first | exact Below.refl _ _ | refine bel_al ?_ | refine bel_drewN ?_ _ | refine Below.drew ?_ | refine bel_trans ?_ HB5.out | refine bel_trans ?_ HB3.out | refine bel_trans ?_ HB2.out | refine bel_trans ?_ HB1.out)))) hl).mono ?_
  rintro e w7 ⟨rfl, n7, rfl⟩
  go_wp2_with fail
  refine (turn_any vn l [77, 78, 79] w.heap.size _ (HN.out.below (by (repeat (first | exact Below.refl _ _ | refine bel_al ?_ | refine bel_drewN ?_ _ | refine Below.drew ?_ | refine bel_trans ?_ HB5.out | refine bel_trans ?_ HB3.out | refine bel_trans ?_ HB2.out))))).mono ?_
  rintro e w8 ⟨rfl, hn8, hc8⟩
  have HN8 := Lib.hid hn8
  have HC8 := Lib.hid hc8
  clear hn8 hc8
  go_wp2_with fail
  refine (pack_any vn (turned l) leaf _ HN8.out.sb).mono ?_
  rintro e w9 ⟨vt, rfl, ho9, hb9⟩
  have HO9 := Lib.hid ho9
  have HB9 := Lib.hid hb9
  clear ho9 hb9
  go_wp2_with fail
  refine (refPack_any vn (turned l) leaf _ (HN8.out.below (by (repeat (first | exact Below.refl _ _ | refine bel_al ?_ | refine bel_drewN ?_ _ | refine Below.drew ?_ | refine bel_trans ?_ HB9.out)))).sb).mono ?_
  rintro e w10 ⟨vx, rfl, ho10, hb10⟩
  have HO10 := Lib.hid ho10
  have HB10 := Lib.hid hb10
  clear ho10 hb10
  go_wp2_with fail
  refine (same_true (HO9.out.sb.below (by (repeat (first | exact Below.refl _ _ | refine bel_al ?_ | refine bel_drewN ?_ _ | refine Below.drew ?_ | refine bel_trans ?_ HB10.out)))) HO10.out.sb).mono ?_
  rintro e w11 ⟨rfl, n11, rfl⟩
  -- the three rows, as they stand now
  obtain ⟨gn, hgn, hgn1, hgn2⟩ := HN.out.block
  have hgn2 := hgn2 (by simp)
  have hs12 : w1.heap.size ≤ w2.heap.size := HB2.out.size
  have hs3 : w1.heap.size ≤ (w3.drewN n4).heap.size := Nat.le_trans hs12 HB3.out.size
  have hb8 : Below w1.heap.size w1 (w5.drewN (n6 + n7)) := by (repeat (first | exact Below.refl _ _ | refine bel_al ?_ | refine bel_drewN ?_ _ | refine Below.drew ?_ | refine bel_trans ?_ HB5.out | refine bel_trans ?_ HB3.out | refine bel_trans ?_ HB2.out))
  have hs8 := hb8.size
  have hc8 := HC8.out gn hgn
  have o2 : OwnB w8 w.heap.size vb (packB l leaf) := OwnB.mono (own_chg (HO2.out.below (by (repeat (first | exact Below.refl _ _ | refine bel_al ?_ | refine bel_drewN ?_ _ | refine Below.drew ?_ | refine bel_trans ?_ HB5.out | refine bel_trans ?_ HB3.out)))) hc8 (fun k hk e => by
    have := (HO2.out.lt k hk).1
    omega)) HB1.out.size
  have o5 : OwnB w8 w.heap.size va2 (packB l leaf) := OwnB.mono (own_chg (HO5.out.below (by (repeat (first | exact Below.refl _ _ | refine bel_al ?_ | refine bel_drewN ?_ _ | refine Below.drew ?_ | refine bel_trans ?_ HB5.out)))) hc8 (fun k hk e => by
    have := (HO5.out.lt k hk).1
    omega)) (Nat.le_trans HB1.out.size hs3)
  have d1 := own_apart HO2.out HO5.out (show w2.heap.size ≤ (w3.drewN n4).heap.size from HB3.out.size)
  have d2 := own_apart o2 HO9.out (Nat.le_refl _)
  have d3 := own_apart o5 HO9.out (Nat.le_refl _)
  have hw8 : Below w.heap.size w w8 := by
    refine (HB1.out.trans (hb8.mono HB1.out.size)).trans (hc8.bel (fun k hk => by omega) ?_)
    have := HB1.out.size
    omega
  have HF : ∀ cw, Below w8.heap.size w8 cw → Below w9.heap.size w9 cw → OwnF cw w.heap.size [vb, va2, vt] (fun i => [packB l leaf, packB l leaf, packB (turned l) leaf].getD i []) := fun cw h h' =>
    ownF3 (o2.below h) (o5.below h) ((HO9.out.below h').mono hw8.size)
  have HFF := Lib.hid HF
  have HD := Lib.hid (dist3 d1 d2 d3)
  have HW8 := Lib.hid hw8
  have hp1 := pack_len l leaf
  have hp2 := pack_len (turned l) leaf
  have HL : Hid (∀ i, i < [vb, va2, vt].length → ([packB l leaf, packB l leaf, packB (turned l) leaf].getD i []).length ≤ 1099511627776) := fun i hi => by
    match i, hi with
    | 0, _ => show (packB l leaf).length ≤ _; omega
    | 1, _ => show (packB l leaf).length ≤ _; omega
    | 2, _ => show (packB (turned l) leaf).length ≤ _; omega
    | i + 3, h => exact absurd h (by simp)
  clear hgn hgn1 hgn2 hs12 hs3 hb8 hs8 hc8 o2 o5 d1 d2 d3 HF hw8 hp1 hp2
  obtain ⟨A2, c2, e2, -⟩ := HO2.out.form
  obtain ⟨A5, c5, e5, -⟩ := HO5.out.form
  obtain ⟨A9, c9, e9, -⟩ := HO9.out.form
  have HW10 : Hid (w.heap.size ≤ (w10.drewN n11).heap.size) := by
    have h1 := HW8.out.size
    have h2 := HB9.out.size
    have h3 := HB10.out.size
    show w.heap.size ≤ w10.heap.size
    omega
  subst e2 e5 e9
  go_wp2_with fail
  refine (apart_lit (vs := [_, _, _]) _ w.heap.size rfl rfl (HFF.out _ (by (repeat (first | exact Below.refl _ _ | refine bel_al ?_ | refine bel_drewN ?_ _ | refine Below.drew ?_ | refine bel_trans ?_ HB10.out | refine bel_trans ?_ HB9.out))) (by (repeat (first | exact Below.refl _ _ | refine bel_al ?_ | refine bel_drewN ?_ _ | refine Below.drew ?_ | refine bel_trans ?_ HB10.out)))) HD.out HW10.out (by simp) HL.out).mono ?_
  rintro e w12 ⟨rfl, hb12⟩
  have HB12 := Lib.hid hb12
  clear hb12
  go_wp2_with fail
  refine (fixed06_any _).mono ?_
  rintro e w13 ⟨rfl, hb13⟩
  have HB13 := Lib.hid hb13
  clear hb13
  go_wp2_with fail
  go_ret
  refine ⟨rfl, ?_⟩
  have h1 : Below w.heap.size w (w10.drewN n11) := HW8.out.trans ((show Below w8.heap.size w8 (w10.drewN n11) by (repeat (first | exact Below.refl _ _ | refine bel_al ?_ | refine bel_drewN ?_ _ | refine Below.drew ?_ | refine bel_trans ?_ HB10.out | refine bel_trans ?_ HB9.out))).mono HW8.out.size)
  have h2 := h1.trans HB12.out
  exact h2.trans (HB13.out.mono h2.size)
end Go.Proofs.Ytdhkhdeblkbojaa
