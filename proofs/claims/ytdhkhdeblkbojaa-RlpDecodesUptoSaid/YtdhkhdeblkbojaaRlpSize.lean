/- rlp.size. -/
import Derived.Test.YtdhkhdeblkbojaaRlpHead
namespace Go.Proofs.Ytdhkhdeblkbojaa
open Go.RowKit
attribute [local go_sem ↓] Go.wp_at_zero Go.wp_at_succ

mutual
def sizeI : It → Nat
  | .mk l b xs => if l then sizeL xs 0 else if b.length = 1 ∧ (b.getD 0 0).toNat < 128 then 1 else b.length + (headB b.length 128).length
def sizeL : List It → Nat → Nat
  | [], n => n + (headB n 192).length
  | x :: r, n => if 1048576 < n + sizeI x then n + sizeI x else sizeL r (n + sizeI x)
end
mutual
def wtI : It → Nat
  | .mk _ b xs => 16 + b.length + wtL xs
def wtL : List It → Nat
  | [] => 0
  | x :: r => wtI x + wtL r
end
theorem headB_len {n : Nat} (h : n < 256 ^ 7) (base : UInt8) : (headB n base).length ≤ 8 ∧ 1 ≤ (headB n base).length := by
  unfold headB
  split
  · simp
  · have := beB_len 7 n h
    simp; omega
mutual
theorem sizeI_le : ∀ x : It, wtI x ≤ 1099511627776 → sizeI x ≤ wtI x
  | .mk l b xs, h => by
    rw [wtI] at h ⊢
    rw [sizeI]
    split
    · have := sizeL_le xs 0 (by omega)
      omega
    · split
      · omega
      · have := headB_len (n := b.length) (by omega) 128
        omega
theorem sizeL_le : ∀ (xs : List It) (n : Nat), n + wtL xs ≤ 1099511627776 → sizeL xs n ≤ n + 8 + wtL xs
  | [], n, h => by
    rw [sizeL, wtL]
    have := headB_len (n := n) (by rw [wtL] at h; omega) 192
    omega
  | x :: r, n, h => by
    rw [wtL] at h
    have h1 := sizeI_le x (by omega)
    rw [sizeL, wtL]
    split
    · omega
    · have := sizeL_le r (n + sizeI x) (by omega)
      omega
end
theorem wtL_mem {E : List Ent} {i : Nat} (h : i < E.length) : wtI E[i].x ≤ wtL (E.map (·.x)) := by
  induction E generalizing i with
  | nil => simp at h
  | cons e r ih =>
    rw [List.map_cons, wtL]
    cases i with
    | zero => simp
    | succ i =>
      have := ih (i := i) (by simpa using h)
      simp only [List.getElem_cons_succ]
      omega

set_option maxRecDepth 100000 in
set_option maxHeartbeats 2000000 in
theorem size_any {w : World} {T : Nat → Prop} {v0 v1 v2 : Value} {x : It} {sv : List Value} (h : RdI w T v0 v1 v2 x sv) :
    ∀ (w' : World), Below w.heap.size w w' → wtI x ≤ 1099511627776 → Calls Try.prog 55 #[.agg #[v0, v1, v2]] w' fun e w'' => e = .returned (.int .i64 (sizeI x : Int)) ∧ Below w'.heap.size w' w'' := by
  induction h with
  | mk l v1 bs A c E h1 h1' h2 h3 h4 h4' h5 h6 ih =>
    intro w' hbel hwt
    have hsrc := h5.below hbel
    have hsb := h1.below hbel
    obtain ⟨A1, c1, rfl, hr1, hc1, hm1, -⟩ := hsb
    have HSrc := Lib.hid hsrc
    have HIh := Lib.hid ih
    have HB := Lib.hid hbel
    have HR1 := Lib.hid hr1
    unfold maxLen at h3 hm1
    rw [wtI] at hwt
    have hel : E.length ≤ 9223372036854775807 := by omega
    have hbl : bs.length ≤ 1099511627776 := by omega
    have hfm : ∀ (i : Nat) (hi : i < E.length), ∃ l A1 n1 c1 A2 n2 c2, E[i].v0 = .bool l ∧ E[i].v1 = .slice A1 n1 c1 ∧ E[i].v2 = .slice A2 n2 c2 := fun i hi => (h6 E[i] (List.getElem_mem _)).form
    have HFm := Lib.hid hfm
    clear hsrc ih hbel h1 h5 h6 h4 h4' h1' hfm hr1
    have hal : Below w'.heap.size w' (w'.alloc (.cells #[.bool l, .slice A1 bs.length c1, .slice A E.length c] 46)) := (Below.refl _ _).alloc (Nat.le_refl _) _
    have HAL := Lib.hid hal
    have hbox := heap_alloc_new w' (.cells #[.bool l, .slice A1 bs.length c1, .slice A E.length c] 46)
    have HBox := Lib.hid hbox
    clear hal hbox
    cases l with
    | false =>
      have HH := Lib.hid (head_any bs.length 128 (by omega))
      by_cases hb1 : bs.length = 1
      · obtain ⟨b5, o5, rfl, hc0⟩ := HR1.out 0 (by omega)
        have hv : bs[0]'(by omega) = bs.getD 0 0 := by rw [getD_at (by omega : 0 < bs.length)]
        rw [hv, Nat.add_zero] at hc0
        have hc0' : (w'.alloc (.cells #[.bool false, .slice (some ⟨b5, o5, none⟩) bs.length c1, .slice A E.length c] 46)).cell? ⟨b5, o5, none⟩ = some (.int .u8 (((bs.getD 0 0).toNat : Nat) : Int)) := chg_cell ((Chg.refl (fun _ => False) w').alloc _) hc0 (fun h => h)
        have hb1' : ((bs.length : Int) == 1) = true := by simp; omega
        have hlp : (0 : Int) < (bs.length : Int) := by omega
        have HB1 := Lib.hid hb1
        by_cases hlow : (bs.getD 0 0).toNat < 128
        · have hfin : Hid (sizeI (.mk false bs (E.map (·.x))) = 1) := by show _ = _; rw [sizeI]; simp only [Bool.false_eq_true, if_false]; rw [if_pos ⟨hb1, hlow⟩]
          have hlow' : (((bs.getD 0 0).toNat : Nat) : Int) < 128 := by omega
          clear hlow hv hb1
          generalize (bs.getD 0 0).toNat = z at hc0 hc0' hlow'
          go_enter Try.func55, Try.ntmps55
          go_wp2_with fail
          go_ret
          rw [hfin.out]
          exact ⟨rfl, HAL.out⟩
        · have hfin : Hid (sizeI (.mk false bs (E.map (·.x))) = bs.length + (headB bs.length 128).length) := by show _ = _; rw [sizeI]; simp only [Bool.false_eq_true, if_false]; rw [if_neg (fun h => hlow h.2)]
          have hlow' : ¬ (((bs.getD 0 0).toNat : Nat) : Int) < 128 := by omega
          have hhl := headB_len (n := bs.length) (by omega) 128
          clear hlow hv hb1
          generalize (bs.getD 0 0).toNat = z at hc0 hc0' hlow'
          go_enter Try.func55, Try.ntmps55
          go_wp2_with fail
          refine (HH.out _).mono ?_
          rintro en w9 ⟨v, rfl, ho, hb9⟩
          obtain ⟨A5, c5, rfl, -⟩ := ho.form
          have HB9 := Lib.hid hb9
          clear hb9 ho
          go_wp2_with fail
          go_ret
          rw [hfin.out]
          exact ⟨by simp, bel_trans HAL.out HB9.out⟩
      · have hb1' : ((bs.length : Int) == 1) = false := by simp; omega
        have hfin : Hid (sizeI (.mk false bs (E.map (·.x))) = bs.length + (headB bs.length 128).length) := by show _ = _; rw [sizeI]; simp only [Bool.false_eq_true, if_false]; rw [if_neg (fun h => hb1 h.1)]
        have hhl := headB_len (n := bs.length) (by omega) 128
        have hb1i : ¬ (bs.length : Int) = 1 := by omega
        clear hb1
        go_enter Try.func55, Try.ntmps55
        go_wp2_with fail
        refine (HH.out _).mono ?_
        rintro en w9 ⟨v, rfl, ho, hb9⟩
        obtain ⟨A5, c5, rfl, -⟩ := ho.form
        have HB9 := Lib.hid hb9
        clear hb9 ho
        go_wp2_with fail
        go_ret
        rw [hfin.out]
        exact ⟨by simp, bel_trans HAL.out HB9.out⟩
    | true =>
      have hfin : Hid (sizeI (.mk true bs (E.map (·.x))) = sizeL (E.map (·.x)) 0) := by show _ = _; rw [sizeI]; rfl
      have hwL : wtL (E.map (·.x)) ≤ 1099511627776 := by omega
      have HWL := Lib.hid hwL
      clear hwL
      go_enter Try.func55, Try.ntmps55
      go_wp2_with fail
      have hwa : (w'.alloc (.cells #[.bool true, .slice A1 bs.length c1, .slice A E.length c] 46)).heap.size = w'.heap.size + 1 := by simp
      generalize w'.alloc (.cells #[.bool true, .slice A1 bs.length c1, .slice A E.length c] 46) = wa at HAL HBox hwa ⊢
      go_loopw [3, 15] (fun v3 v wr => ∃ i n : Nat, i ≤ E.length ∧ v3 = .int .i64 (n : Int) ∧ v = .int .i64 i ∧ n ≤ 1048576 ∧ Below w'.heap.size w' wr ∧ sizeL (E.map (·.x)) 0 = sizeL ((E.drop i).map (·.x)) n) (fun _ v _ => E.length - (intOf v).toNat)
      case atStart => exact ⟨0, 0, by omega, rfl, rfl, by omega, HAL.out, by simp⟩
      case round =>
        obtain ⟨i, n, hi, rfl, rfl, hn, hbel, hrest⟩ := hrel
        by_cases h1 : i < E.length
        · obtain ⟨b, off, rfl, e0, e1, e2⟩ := ent_cell (HSrc.out.below hbel) h1
          have h1i : (i : Int) < (E.length : Int) := by omega
          have hi0 : (0 : Int) ≤ (i : Int) := by omega
          obtain ⟨l2, A5, n5, c5, A6, n6, c6, f0, f1, f2⟩ := HFm.out i h1
          have hwx := wtL_mem h1
          have hwl := HWL.out
          have hc := HIh.out E[i] (List.getElem_mem _) (wr.alloc (.cells #[.bool l2, .slice A5 n5 c5, .slice A6 n6 c6] 46)) ((bel_trans HB.out hbel).alloc (by have := hbel.size; have := HB.out.size; omega) _) (by omega)
          have hsl := sizeI_le E[i].x (by omega)
          have hsx : sizeI E[i].x ≤ 1099511627776 := by omega
          rw [f0, f1, f2] at hc
          rw [f0] at e0
          rw [f1] at e1
          rw [f2] at e2
          rw [drop_map h1, sizeL] at hrest
          have HC := Lib.hid hc
          have HBl := Lib.hid hbel
          have hsz := hbel.size
          clear hc f0 f1 f2 hbel hwx hwl hsl
          by_cases hover : 1048576 < n + sizeI E[i].x
          · rw [if_pos hover] at hrest
            have hfin2 : Hid (sizeI (.mk true bs (E.map (·.x))) = n + sizeI E[i].x) := by show _ = _; rw [hfin.out, hrest]
            have hov : (1048576 : Int) < (n : Int) + (sizeI E[i].x : Int) := by omega
            clear hrest hover
            go_wp2_with fail
            refine HC.out.mono ?_
            rintro en w9 ⟨rfl, hb9⟩
            have HB9 := Lib.hid hb9
            clear hb9 HC
            go_wp2_with fail
            go_ret
            rw [hfin2.out]
            exact ⟨by simp, bel_trans (HBl.out.alloc hsz _) HB9.out⟩
          · rw [if_neg hover] at hrest
            have hov : ¬ (1048576 : Int) < (n : Int) + (sizeI E[i].x : Int) := by omega
            have HRest := Lib.hid hrest
            clear hrest
            go_wp2_with fail
            refine HC.out.mono ?_
            rintro en w9 ⟨rfl, hb9⟩
            have HB9 := Lib.hid hb9
            clear hb9 HC
            go_wp2_with fail
            refine ⟨⟨i + 1, n + sizeI E[i].x, by omega, by simp, by go_num, by omega, bel_trans (HBl.out.alloc hsz _) HB9.out, HRest.out⟩, by simp [intOf]; omega⟩
        · have hie : i = E.length := by omega
          subst hie
          have h1i : ¬ (E.length : Int) < (E.length : Int) := by omega
          have hfin2 : Hid (sizeI (.mk true bs (E.map (·.x))) = n + (headB n 192).length) := by show _ = _; rw [hfin.out, hrest]; simp [sizeL]
          have hhl := headB_len (n := n) (by omega) 192
          have HH := Lib.hid (head_any n 192 (by omega))
          have HBl := Lib.hid hbel
          clear hrest hbel
          go_wp2_with fail
          refine (HH.out _).mono ?_
          rintro en w9 ⟨v, rfl, ho, hb9⟩
          obtain ⟨A5, c5, rfl, -⟩ := ho.form
          have HB9 := Lib.hid hb9
          clear hb9 ho
          go_wp2_with fail
          go_ret
          rw [hfin2.out]
          exact ⟨by simp, bel_trans HBl.out HB9.out⟩
end Go.Proofs.Ytdhkhdeblkbojaa
