/- rlp.form. -/
import Derived.Test.YtdhkhdeblkbojaaRlpSize
namespace Go.Proofs.Ytdhkhdeblkbojaa
open Go.RowKit
attribute [local go_sem ↓] Go.wp_at_zero Go.wp_at_succ

mutual
def formI : It → List UInt8
  | .mk l b xs => if l then headB (formL xs).length 192 ++ formL xs else if b.length = 1 ∧ (b.getD 0 0).toNat < 128 then b else headB b.length 128 ++ b
def formL : List It → List UInt8
  | [] => []
  | x :: r => formI x ++ formL r
end
mutual
theorem formI_le : ∀ x : It, wtI x ≤ 1099511627776 → (formI x).length ≤ wtI x
  | .mk l b xs, h => by
    rw [wtI] at h ⊢
    rw [formI]
    split
    · have h1 := formL_le xs (by omega)
      have := headB_len (n := (formL xs).length) (by omega) 192
      simp; omega
    · split
      · omega
      · have := headB_len (n := b.length) (by omega) 128
        simp; omega
theorem formL_le : ∀ (xs : List It), wtL xs ≤ 1099511627776 → (formL xs).length ≤ wtL xs
  | [], h => by rw [formL]; simp
  | x :: r, h => by
    rw [wtL] at h ⊢
    rw [formL]
    have h1 := formI_le x (by omega)
    have h2 := formL_le r (by omega)
    simp; omega
end

theorem OwnB.chg {S : Nat → Prop} {w w' : World} {base : Nat} {v : Value} {l : List UInt8} (h : OwnB w base v l) (hc : Chg S w w') (hs : ∀ k, v.ownBlock = some k → ¬ S k) : OwnB w' base v l := own_chg h hc hs

theorem bel_undrewN {B : Nat} {w w' : World} {n : Nat} (h : Below B (w.drewN n) w') : Below B w w' := ⟨h.os, h.tape, h.output, h.size, h.block⟩
theorem own_or {w : World} {base : Nat} {e : TypeId} {size : Nat} {v v' : Value} {n : Nat} {xs : List Value} {w' : World} (h : Appended w base e size v n xs w' v') : ∀ k, v'.ownBlock = some k → v.ownBlock = some k ∨ k = w.heap.size := fun k hk => by
  rcases h.2.2 with ⟨e, _⟩ | ⟨e, _⟩
  · exact .inl (by rw [← e]; exact hk)
  · right
    rw [e] at hk
    injection hk with hk
    exact hk.symm

/-- two appends behind one another -/
theorem chg_two {w' wa w9 w3 w4 : World} {b1 b2 : Nat} {e1 e2 : TypeId} {s1 s2 : Nat} {vo v3 v4 : Value} {n1 n2 : Nat} {x1 x2 : List Value} (hal : Below w'.heap.size w' wa) (h9 : Below wa.heap.size wa w9) (hap : Appended w9 b1 e1 s1 vo n1 x1 w3 v3) (hap2 : Appended w3 b2 e2 s2 v3 n2 x2 w4 v4) :
    Chg (fun k => vo.ownBlock = some k) w' w4 :=
  ((((Chg.refl _ w').trans (Below.chg _ hal)).trans (Below.chg _ h9)).grown hap.2.1 (fun k hk => .inl hk)).grown hap2.2.1 (fun k hk => by
    rcases own_or hap k hk with h | h
    · exact .inl h
    · right
      have := hal.size
      have := h9.size
      omega)

set_option maxRecDepth 100000 in
set_option maxHeartbeats 2000000 in
theorem form_any {w : World} {T : Nat → Prop} {v0 v1 v2 : Value} {x : It} {sv : List Value} (h : RdI w T v0 v1 v2 x sv) :
    ∀ (w' : World) (base : Nat) (vo : Value) (lo : List UInt8), Below w.heap.size w w' → w.heap.size ≤ base → base ≤ w'.heap.size → OwnB w' base vo lo → lo.length + wtI x ≤ 1099511627776 →
      Calls Try.prog 56 #[vo, .agg #[v0, v1, v2]] w' fun e w'' => ∃ v, e = .returned v ∧ OwnB w'' base v (lo ++ formI x) ∧ Chg (fun k => vo.ownBlock = some k) w' w'' := by
  induction h with
  | mk l v1 bs A c E h1 h1' h2 h3 h4 h4' h5 h6 ih =>
    intro w' base vo lo hbel hwb hbw hown hwt
    have hsrc := h5.below hbel
    have hsb := h1.below hbel
    have HS0 := Lib.hid h1
    obtain ⟨A1, c1, rfl, hr1, hc1, hm1, -⟩ := h1
    have hr1' := hr1.below hbel
    have HSrc := Lib.hid hsrc
    have HSb := Lib.hid hsb
    have HIh := Lib.hid ih
    have HB := Lib.hid hbel
    have HR1 := Lib.hid hr1'
    unfold maxLen at h3 hm1
    rw [wtI] at hwt
    have hel : E.length ≤ 9223372036854775807 := by omega
    have hbl : bs.length ≤ 1099511627776 := by omega
    have hfm : ∀ (i : Nat) (hi : i < E.length), ∃ l A1 n1 c1 A2 n2 c2, E[i].v0 = .bool l ∧ E[i].v1 = .slice A1 n1 c1 ∧ E[i].v2 = .slice A2 n2 c2 := fun i hi => (h6 E[i] (List.getElem_mem _)).form
    have HFm := Lib.hid hfm
    have hbk : ∀ a, A1 = some a → 0 < bs.length → a.block < w.heap.size := fun a ha h0 => by
      subst ha
      obtain ⟨b5, o5, e5, hc0⟩ := hr1 0 h0
      injection e5 with e5
      rw [e5]
      exact World.block_lt_of_cell? w _ hc0
    have HBk := Lib.hid hbk
    have hlt : ∀ k, vo.ownBlock = some k → base ≤ k ∧ k < w'.heap.size := hown.lt
    have HLt := Lib.hid hlt
    obtain ⟨Ao, co, rfl, -⟩ := hown.form
    have HO := Lib.hid hown
    have hal : Below w'.heap.size w' (w'.alloc (.cells #[.bool l, .slice A1 bs.length c1, .slice A E.length c] 46)) := (Below.refl _ _).alloc (Nat.le_refl _) _
    have HAL := Lib.hid hal
    have hbox := heap_alloc_new w' (.cells #[.bool l, .slice A1 bs.length c1, .slice A E.length c] 46)
    have HBox := Lib.hid hbox
    have hoa := HO.out.below hal
    have HOa := Lib.hid hoa
    have hwa : (w'.alloc (.cells #[.bool l, .slice A1 bs.length c1, .slice A E.length c] 46)).heap.size = w'.heap.size + 1 := by simp
    clear hsrc ih hbel h5 h6 h4 h4' h1' hfm hr1 hr1' hsb hlt hown hal hbox hbk hoa
    cases l with
    | false =>
      by_cases hb1 : bs.length = 1 ∧ (bs.getD 0 0).toNat < 128
      · obtain ⟨hb1, hlow⟩ := hb1
        have hfin : Hid (formI (.mk false bs (E.map (·.x))) = bs) := by show _ = _; rw [formI]; simp only [Bool.false_eq_true, if_false]; rw [if_pos ⟨hb1, hlow⟩]
        have hbs : Hid (bs = [bs.getD 0 0]) := by
          show _ = _
          match bs, hb1 with
          | [a], _ => rfl
        obtain ⟨b5, o5, rfl, hc0⟩ := HR1.out 0 (by omega)
        have hv : bs[0]'(by omega) = bs.getD 0 0 := by rw [getD_at (by omega : 0 < bs.length)]
        rw [hv, Nat.add_zero] at hc0
        have hc0' : (w'.alloc (.cells #[.bool false, .slice (some ⟨b5, o5, none⟩) bs.length c1, .slice A E.length c] 46)).cell? ⟨b5, o5, none⟩ = some (.int .u8 (((bs.getD 0 0).toNat : Nat) : Int)) := chg_cell ((Chg.refl (fun _ => False) w').alloc _) hc0 (fun h => h)
        have hb1' : ((bs.length : Int) == 1) = true := by simp; omega
        have hlp : (0 : Int) < (bs.length : Int) := by omega
        have hlow' : (((bs.getD 0 0).toNat : Nat) : Int) < 128 := by omega
        clear hlow hv hb1
        generalize hz : (bs.getD 0 0).toNat = z at hc0 hc0' hlow'
        have HZ := Lib.hid hz
        clear hz
        go_enter Try.func56, Try.ntmps56
        go_wp2_with (at_builtin; go_loud (refine wpList_ap (s := .tmp 41) (x := .tmp 46) bytesT rfl rfl (by rfl) (own_below HOa.out ((Below.refl _ _).alloc (Nat.le_refl _) _)) (by rfl) (Src.block (m := 1) (heap_alloc2_new _ _ _) (by rfl)) (by simp [Value.oneCell']) (by simp only [maxLen]; omega) (by omega) (by simp; omega) ?_); intro v1 w2 hap)
        go_ret
        refine ⟨v1, rfl, ?_, (((Chg.refl _ w').alloc _).alloc _).grown hap.2.1 (fun k hk => .inl hk)⟩
        have e1 : bs.map bv = [.int .u8 (z : Int)] := by rw [hbs.out, ← HZ.out]; rfl
        rw [hfin.out]
        exact OwnB.of hap.1 (by rw [List.map_append, e1])
      · have hfin : Hid (formI (.mk false bs (E.map (·.x))) = headB bs.length 128 ++ bs) := by show _ = _; rw [formI]; simp only [Bool.false_eq_true, if_false]; rw [if_neg hb1]
        have hhl := headB_len (n := bs.length) (by omega) 128
        have HH := Lib.hid (head_any bs.length 128 (by omega))
        have HN1 := Lib.hid hb1
        clear hb1
        by_cases hb1 : bs.length = 1
        · obtain ⟨b5, o5, rfl, hc0⟩ := HR1.out 0 (by omega)
          have hv : bs[0]'(by omega) = bs.getD 0 0 := by rw [getD_at (by omega : 0 < bs.length)]
          rw [hv, Nat.add_zero] at hc0
          have hc0' : (w'.alloc (.cells #[.bool false, .slice (some ⟨b5, o5, none⟩) bs.length c1, .slice A E.length c] 46)).cell? ⟨b5, o5, none⟩ = some (.int .u8 (((bs.getD 0 0).toNat : Nat) : Int)) := chg_cell ((Chg.refl (fun _ => False) w').alloc _) hc0 (fun h => h)
          have hb1' : ((bs.length : Int) == 1) = true := by simp; omega
          have hlp : (0 : Int) < (bs.length : Int) := by omega
          have hlow' : ¬ (((bs.getD 0 0).toNat : Nat) : Int) < 128 := by have := HN1.out; omega
          clear hv hb1
          generalize hz : (bs.getD 0 0).toNat = z at hc0 hc0' hlow'
          clear hz
          go_enter Try.func56, Try.ntmps56
          go_wp2_with fail
          have KC := hc0'
          clear hc0 hc0'
          generalize w'.alloc (.cells #[.bool false, .slice (some ⟨b5, o5, none⟩) bs.length c1, .slice A E.length c] 46) = wa at HAL HBox HOa hwa KC ⊢
          have kb : wa.cell? ⟨w'.heap.size, 1, none⟩ = some (.slice (some ⟨b5, o5, none⟩) bs.length c1) := cell_of_row wa w'.heap.size 1 _ _ _ HBox.out
          have hlb : ∀ k, (Value.slice Ao lo.length co).ownBlock = some k → k < w'.heap.size := fun k hk => (HLt.out k hk).2
          have hlb2 : ∀ k, (Value.slice Ao lo.length co).ownBlock = some k → w.heap.size ≤ k := fun k hk => by have := (HLt.out k hk).1; omega
          have HLB := Lib.hid hlb
          have HLB2 := Lib.hid hlb2
          have hww : w.heap.size ≤ w'.heap.size := HB.out.size
          clear hlb hlb2 KC
          go_region_held3 (fun W => W.cell? ⟨w'.heap.size, 1, none⟩ = some (.slice (some ⟨b5, o5, none⟩) bs.length c1)) (first | exact kb | exact KB2.out | exact ap_cell hap (fun k hk => by have := HLB.out k hk; simp only; omega) KB2.out | exact ap_cell hap2 (fun k hk => by rcases own_or hap k hk with h | h <;> first | (have := HLB.out k h; simp only; omega) | (simp only; omega)) (ap_cell hap (fun k hk => by have := HLB.out k hk; simp only; omega) KB2.out))
            (first
              | (go_at_call 72; refine (HH.out _).mono ?_; rintro en w9 ⟨v9, rfl, ho9, hb9⟩; obtain ⟨A9, c9, rfl, -⟩ := ho9.form; have HO9 := Lib.hid ho9; have HB9 := Lib.hid (bel_undrewN hb9); have KB2 := Lib.hid (chg_cell (Below.chg (fun _ => False) HB9.out) kb (fun h => h)); have hsz9 : wa.heap.size ≤ w9.heap.size := hb9.size; have HBW := Lib.hid (bel_trans (bel_trans HB.out HAL.out) HB9.out); clear ho9 hb9)
              | (refine step_ap bytesT (by rfl) (by rfl) (by rfl) (HOa.out.below HB9.out) (by rfl) (Src.own HO9.out) (bv_one _) (by simp only [maxLen]; omega) (by omega) (by omega) ?_; intro v3 w3 hap)
              | (refine step_ap bytesT (by rfl) (by rfl) (by rfl) hap.1 (by rfl) ((HS0.out.below (ap_below HBW.out hap (by omega) HLB2.out)).src) (bv_one _) (by simp only [maxLen]; omega) (by omega) (by have := hap.2.1.size; omega) ?_; intro v4 w4 hap2))
          all_goals
            go_wp2_with fail
            go_ret
            refine ⟨v4, rfl, ?_, chg_two HAL.out HB9.out hap hap2⟩
            rw [hfin.out]
            exact OwnB.of hap2.1 (by rw [List.map_append, List.map_append, List.append_assoc])
        · have hb1' : ((bs.length : Int) == 1) = false := by simp; omega
          have hb1i : ¬ (bs.length : Int) = 1 := by omega
          clear hb1
          go_enter Try.func56, Try.ntmps56
          go_wp2_with fail
          generalize w'.alloc (.cells #[.bool false, .slice A1 bs.length c1, .slice A E.length c] 46) = wa at HAL HBox HOa hwa ⊢
          have kb : wa.cell? ⟨w'.heap.size, 1, none⟩ = some (.slice A1 bs.length c1) := cell_of_row wa w'.heap.size 1 _ _ _ HBox.out
          have hlb : ∀ k, (Value.slice Ao lo.length co).ownBlock = some k → k < w'.heap.size := fun k hk => (HLt.out k hk).2
          have hlb2 : ∀ k, (Value.slice Ao lo.length co).ownBlock = some k → w.heap.size ≤ k := fun k hk => by have := (HLt.out k hk).1; omega
          have HLB := Lib.hid hlb
          have HLB2 := Lib.hid hlb2
          have hww : w.heap.size ≤ w'.heap.size := HB.out.size
          clear hlb hlb2
          go_region_held3 (fun W => W.cell? ⟨w'.heap.size, 1, none⟩ = some (.slice A1 bs.length c1)) (first | exact kb | exact KB2.out | exact ap_cell hap (fun k hk => by have := HLB.out k hk; simp only; omega) KB2.out | exact ap_cell hap2 (fun k hk => by rcases own_or hap k hk with h | h <;> first | (have := HLB.out k h; simp only; omega) | (simp only; omega)) (ap_cell hap (fun k hk => by have := HLB.out k hk; simp only; omega) KB2.out))
            (first
              | (go_at_call 72; refine (HH.out _).mono ?_; rintro en w9 ⟨v9, rfl, ho9, hb9⟩; obtain ⟨A9, c9, rfl, -⟩ := ho9.form; have HO9 := Lib.hid ho9; have HB9 := Lib.hid (bel_undrewN hb9); have KB2 := Lib.hid (chg_cell (Below.chg (fun _ => False) HB9.out) kb (fun h => h)); have hsz9 : wa.heap.size ≤ w9.heap.size := hb9.size; have HBW := Lib.hid (bel_trans (bel_trans HB.out HAL.out) HB9.out); clear ho9 hb9)
              | (refine step_ap bytesT (by rfl) (by rfl) (by rfl) (HOa.out.below HB9.out) (by rfl) (Src.own HO9.out) (bv_one _) (by simp only [maxLen]; omega) (by omega) (by omega) ?_; intro v3 w3 hap)
              | (refine step_ap bytesT (by rfl) (by rfl) (by rfl) hap.1 (by rfl) ((HS0.out.below (ap_below HBW.out hap (by omega) HLB2.out)).src) (bv_one _) (by simp only [maxLen]; omega) (by omega) (by have := hap.2.1.size; omega) ?_; intro v4 w4 hap2))
          all_goals
            go_wp2_with fail
            go_ret
            refine ⟨v4, rfl, ?_, chg_two HAL.out HB9.out hap hap2⟩
            rw [hfin.out]
            exact OwnB.of hap2.1 (by rw [List.map_append, List.map_append, List.append_assoc])
    | true =>
      have hfin : Hid (formI (.mk true bs (E.map (·.x))) = headB (formL (E.map (·.x))).length 192 ++ formL (E.map (·.x))) := by show _ = _; rw [formI]; rfl
      have hwL : wtL (E.map (·.x)) ≤ 1099511627776 := by omega
      have hfl := formL_le (E.map (·.x)) hwL
      have HWL := Lib.hid hwL
      have HFL := Lib.hid (Nat.le_trans hfl hwL)
      have hlen9 : lo.length + (formL (E.map (·.x))).length ≤ 1099511627776 := by omega
      have HL9 := Lib.hid hlen9
      clear hwL hfl hlen9
      go_enter Try.func56, Try.ntmps56
      go_wp2_with fail
      generalize w'.alloc (.cells #[.bool true, .slice A1 bs.length c1, .slice A E.length c] 46) = wa at HAL HBox HOa hwa ⊢
      have hww : w.heap.size ≤ w'.heap.size := HB.out.size
      go_loopw [5, 14] (fun v5 v wr => ∃ (i : Nat) (l : List UInt8), i ≤ E.length ∧ v = .int .i64 i ∧ OwnB wr wa.heap.size v5 l ∧ Below wa.heap.size wa wr ∧ formL (E.map (·.x)) = l ++ formL ((E.drop i).map (·.x)) ∧ l.length + wtL ((E.drop i).map (·.x)) ≤ 1099511627776) (fun _ v _ => E.length - (intOf v).toNat)
      case atStart => exact ⟨0, [], by omega, rfl, OwnB.nil _ _, Below.refl _ _, by simp, by simpa using HWL.out⟩
      case round =>
        obtain ⟨i, l, hi, rfl, hob, hbel, hrest, hwr⟩ := hrel
        by_cases h1 : i < E.length
        · have hbw2 : Below w.heap.size w wr := bel_trans (bel_trans HB.out HAL.out) hbel
          obtain ⟨b, off, rfl, e0, e1, e2⟩ := ent_cell (HSrc.out.below ((bel_trans HAL.out hbel))) h1
          have h1i : (i : Int) < (E.length : Int) := by omega
          have hi0 : (0 : Int) ≤ (i : Int) := by omega
          obtain ⟨l2, A5, n5, c5, A6, n6, c6, f0, f1, f2⟩ := HFm.out i h1
          rw [drop_map h1, formL] at hrest
          rw [drop_map h1, wtL] at hwr
          have hsz := hbel.size
          have hc := HIh.out E[i] (List.getElem_mem _) (wr.alloc (.cells #[.bool l2, .slice A5 n5 c5, .slice A6 n6 c6] 46)) wa.heap.size u5 l (hbw2.alloc (by omega) _) (by omega) (by simp; omega) (hob.below ((Below.refl _ _).alloc (Nat.le_refl _) _)) (by omega)
          have hge := own_ge hob
          have hfx := formI_le E[i].x (by omega)
          rw [f0, f1, f2] at hc
          rw [f0] at e0
          rw [f1] at e1
          rw [f2] at e2
          have HC := Lib.hid hc
          have HBl := Lib.hid hbel
          have HRest := Lib.hid hrest
          have HGe := Lib.hid hge
          clear hc f0 f1 f2 hbel hrest hob hge hbw2
          go_wp2_with fail
          refine HC.out.mono ?_
          rintro en w9 ⟨v9, rfl, ho9, hch9⟩
          have HO9 := Lib.hid ho9
          have HCH9 := Lib.hid hch9
          clear ho9 hch9 HC
          go_wp2_with fail
          refine ⟨⟨i + 1, l ++ formI E[i].x, by omega, by go_num, HO9.out, (HBl.out.alloc hsz _).trans (HCH9.out.bel HGe.out (by simp; omega)), by rw [HRest.out]; simp, by simp only [List.length_append]; omega⟩, by simp [intOf]; omega⟩
        · have hie : i = E.length := by omega
          subst hie
          have h1i : ¬ (E.length : Int) < (E.length : Int) := by omega
          have hl : formL (E.map (·.x)) = l := by rw [hrest]; simp [formL]
          rw [hl] at hfin HL9 HFL
          have hll := HFL.out
          have hl9 := HL9.out
          have hhl := headB_len (n := l.length) (by omega) 192
          have HH := Lib.hid (head_any l.length 192 (by omega))
          obtain ⟨A5, c5, rfl, -⟩ := hob.form
          have HOb := Lib.hid hob
          have HBl := Lib.hid hbel
          have hob2 := HOa.out.below hbel
          have HOr := Lib.hid hob2
          have hsz := hbel.size
          clear hrest hbel hob hl hwr hob2
          go_wp2_with fail
          refine (HH.out _).mono ?_
          rintro en w9 ⟨v9, rfl, ho9, hb9⟩
          obtain ⟨A9, c9, rfl, -⟩ := ho9.form
          have HO9 := Lib.hid ho9
          have HB9 := Lib.hid hb9
          have hsz9 := hb9.size
          clear hb9 ho9
          go_wp2_with (at_builtin; (first
            | (refine wpList_ap (s := .tmp 22) (x := .tmp 25) bytesT rfl rfl (by rfl) (HOr.out.below HB9.out) (by rfl) (Src.own HO9.out) (bv_one _) (by simp only [maxLen]; omega) (by omega) (by omega) ?_; intro v3 w3 hap)
            | (refine wpList_ap (s := .tmp 26) (x := .tmp 27) bytesT rfl rfl (by rfl) hap.1 (by rfl) (Src.own (own_grown (HOb.out.below HB9.out) hap.2.1 (fun k hk hk' => by have := own_ge HOb.out k hk; have := (HLt.out k hk').2; omega))) (bv_one _) (by simp only [maxLen]; omega) (by omega) (by have := hap.2.1.size; omega) ?_; intro v4 w4 hap2)))
          go_ret
          refine ⟨v4, rfl, ?_, chg_two (bel_trans HAL.out HBl.out) HB9.out hap hap2⟩
          rw [hfin.out]
          exact OwnB.of hap2.1 (by rw [List.map_append, List.map_append, List.append_assoc])
end Go.Proofs.Ytdhkhdeblkbojaa
