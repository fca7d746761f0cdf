/- The document's answer for the form: short, head, form, Encode. -/
import Derived.Test.YtdhkhdeblkbojaaRefEnc
set_option linter.unusedSimpArgs false
namespace Go.Proofs.Ytdhkhdeblkbojaa
open Go.RowKit
attribute [local go_sem ↓] Go.wp_at_zero Go.wp_at_succ
attribute [local go_sem] size_gr cell_gr frozen_gr setCell_gr gr_drew gr_drewN lt_k lt_kc le_k le_kc sub_kc

set_option maxRecDepth 100000 in
set_option maxHeartbeats 2000000 in
theorem rshort_any (n : Nat) (hn : n < 9223372036854775808) (w : World) : Calls Try.prog 65 #[.int .i64 (n : Int)] w fun e w' => ∃ v, e = .returned v ∧ OwnB w' w.heap.size v (beB n) ∧ Below w.heap.size w w' := by
  have hl8 := beB_len 8 n (by omega)
  go_enter Try.func65, Try.ntmps65
  go_wp2_with fail
  go_loopw [0, 3] (fun v0 v wr => ∃ (k : Nat) (A : Option Addr) (c : Nat) (l : List UInt8), k ≤ n ∧ v0 = .int .i64 k ∧ v = .slice A l.length c ∧ beB n = beB k ++ l ∧ OwnB wr w.heap.size (.slice A l.length c) l ∧ ∃ D, wr = w.gr D) (fun v _ _ => (intOf v).toNat)
  case atStart => exact ⟨n, none, 0, [], by omega, rfl, rfl, by simp, OwnB.nil _ _, _, (gr_nil _).symm⟩
  case round =>
    obtain ⟨k, A, c, l, hk, rfl, rfl, hbe, ho, D, rfl⟩ := hrel
    have HO := Lib.hid ho
    clear ho
    by_cases h0 : k = 0
    · subst h0
      have hbl : Hid (beB n = l) := by show _ = _; rw [hbe, beB_zero]; rfl
      clear hbe
      go_wp2_with fail
      go_ret
      rw [hbl.out]
      exact ⟨_, rfl, HO.out, by (repeat (first | exact Below.refl _ _ | refine bg_al ?_ | refine bg_gr ?_ | refine bg_drn ?_ | refine bg_dr ?_ | assumption))⟩
    · have hk0 : (0 : Int) < k := by omega
      rw [beB_pos h0] at hbe
      have hll : l.length ≤ 8 := by have := congrArg List.length hbe; simp at this; omega
      have HBe := Lib.hid hbe
      clear hbe h0
      go_wp2_with (at_builtin; go_must (refine ap_new [UInt8.ofNat k] l (UInt8.ofNat k :: l) (l.length + 1) rfl rfl rfl rfl rfl rfl (by rfl) (by simp only [World.size_alloc, size_gr, World.size_setCell, World.size_drew]) (by simp [bv]) rfl rfl (by rfl) (HO.out.sb.below (by (repeat (first | exact Below.refl _ _ | refine bg_al ?_ | refine bg_gr ?_ | refine bg_drn ?_ | refine bg_dr ?_ | assumption)))) (by simp; omega) ?_); intro D7 A7 c7 ho7 hc7 hm7)
      exact ⟨⟨k / 256, _, _, _, by omega, by go_num, rfl, by rw [HBe.out]; simp, (ho7 _ (by (repeat (first | (refine at_base ?_; simp only [World.size_alloc, size_gr, World.size_setCell, World.size_drew]; done) | (refine at_base ?_; rfl) | refine at_al ?_ | refine at_gr ?_ | refine at_drn ?_ | refine at_dr ?_ | assumption)))).mono (by rw [size_gr]; omega), gr_of_below (by (repeat (first | exact Below.refl _ _ | refine bg_al ?_ | refine bg_gr ?_ | refine bg_drn ?_ | refine bg_dr ?_ | assumption)))⟩, by simp [intOf]; omega⟩

set_option maxRecDepth 100000 in
set_option maxHeartbeats 2000000 in
theorem rhead_any (n : Nat) (base : UInt8) (hb : base = 128 ∨ base = 192) (hn : n ≤ 1099511627776) (w : World) : Calls Try.prog 76 #[.int .i64 ((base.toNat : Nat) : Int), .int .i64 (n : Int)] w fun e w' => ∃ v, e = .returned v ∧ OwnB w' w.heap.size v (headB n base) ∧ Below w.heap.size w w' := by
  have hbn : base.toNat ≤ 192 := by rcases hb with rfl | rfl <;> decide
  have hl8 := beB_len 8 n (by omega)
  by_cases h56 : n < 56
  · have h56' : (n : Int) < 56 := by omega
    have hfin : Hid (headB n base = [base + UInt8.ofNat n]) := if_pos h56
    clear hb
    go_enter Try.func76, Try.ntmps76
    go_wp2_with fail
    go_ret
    rw [hfin.out]
    refine ⟨_, rfl, OwnB.of (own_lit w _ 5 (n := 1) (size := 1) (Nat.le_refl _) (by simp [maxLen]) (by rfl)) (by simp [bv, UInt8.toNat_add]; omega), by (repeat (first | exact Below.refl _ _ | refine bg_al ?_ | refine bg_gr ?_ | refine bg_drn ?_ | refine bg_dr ?_ | assumption))⟩
  · have h56' : ¬ (n : Int) < 56 := by omega
    have hfin : Hid (headB n base = (base + 55 + UInt8.ofNat (beB n).length) :: beB n) := if_neg h56
    clear hb
    go_enter Try.func76, Try.ntmps76
    go_wp2_with fail
    refine (rshort_any n (by omega) _).mono ?_
    rintro en w1 ⟨v, rfl, ho, hb⟩; obtain ⟨D1, rfl⟩ := gr_of_below hb; clear hb
    obtain ⟨A1, c1, rfl, -⟩ := ho.form
    have HO := Lib.hid (ownB_at ho)
    clear ho
    go_wp2_with (at_builtin; go_must (refine ap_new [base + 55 + UInt8.ofNat (beB n).length] (beB n) _ ((beB n).length + 1) rfl rfl rfl rfl rfl rfl (by rfl) (by simp only [World.size_alloc, size_gr, World.size_setCell, World.size_drew]) (by simp [bv, UInt8.toNat_add]; omega) rfl rfl (by rfl) (HO.out _ (by (repeat (first | (refine at_base ?_; simp only [World.size_alloc, size_gr, World.size_setCell, World.size_drew]; done) | (refine at_base ?_; rfl) | refine at_al ?_ | refine at_gr ?_ | refine at_drn ?_ | refine at_dr ?_ | assumption)))).sb (by simp; omega) ?_; intro D7 A7 c7 ho7 hc7 hm7))
    go_ret
    rw [hfin.out]
    exact ⟨_, rfl, (ho7 _ (by (repeat (first | (refine at_base ?_; simp only [World.size_alloc, size_gr, World.size_setCell, World.size_drew]; done) | (refine at_base ?_; rfl) | refine at_al ?_ | refine at_gr ?_ | refine at_drn ?_ | refine at_dr ?_ | assumption)))).mono (by simp only [World.size_alloc, size_gr]; omega), by (repeat (first | exact Below.refl _ _ | refine bg_al ?_ | refine bg_gr ?_ | refine bg_drn ?_ | refine bg_dr ?_ | assumption))⟩

theorem sb_cell0 {w : World} {A : Option Addr} {n c : Nat} {x : UInt8} {l : List UInt8} (h : SB w (.slice A n c) (x :: l)) : ∃ b off, A = some ⟨b, off, none⟩ ∧ w.cell? ⟨b, off, none⟩ = some (.int .u8 ((x.toNat : Nat) : Int)) ∧ b < w.heap.size := by
  obtain ⟨A', c', e, hr, -⟩ := h
  injection e with e1 e2 e3
  subst e1
  obtain ⟨b, off, rfl, hc⟩ := hr 0 (by simp)
  exact ⟨b, off, rfl, hc, World.block_lt_of_cell? w _ hc⟩

set_option maxRecDepth 100000 in
set_option maxHeartbeats 2000000 in
theorem rform_any {w : World} {T : Nat → Prop} {v0 v1 v2 : Value} {x : It} {sv : List Value} (h : RdI w T v0 v1 v2 x sv) :
    ∀ (w' : World), Below w.heap.size w w' → wtI x ≤ 1099511627776 → Calls Try.prog 64 #[.agg #[v0, v1, v2]] w' fun e w'' => ∃ v, e = .returned v ∧ OwnB w'' w'.heap.size v (formI x) ∧ Below w'.heap.size w' w'' := by
  induction h with
  | mk l v1 bs A c E h1 h1' h2 h3 h4 h4' h5 h6 ih =>
    intro w' hbel hwt
    have HSb := Lib.hid (h1.below hbel)
    obtain ⟨A1, c1, rfl, -⟩ := h1
    have HE := Lib.hid (fun W i (hb : Below w.heap.size w W) hi => ent_full h5 h6 (i := i) hb hi)
    have HIh := Lib.hid ih
    have HB := Lib.hid hbel
    have HW := Lib.hid hwt
    unfold maxLen at h3
    have hel : E.length ≤ 9223372036854775807 := by omega
    have hbl : bs.length ≤ 1099511627776 := by rw [wtI] at hwt; omega
    clear ih hbel h5 h6 h4 h4' h1' hwt
    cases l with
    | false =>
      by_cases hs : bs.length = 1 ∧ (bs.getD 0 0).toNat < 128
      · have hfin : Hid (formI (.mk false bs (E.map (·.x))) = bs) := by show _ = _; rw [formI]; simp only [Bool.false_eq_true, if_false]; rw [if_pos hs]
        match bs, hs, HSb, hfin with
        | [a], hs, HSb, hfin =>
        obtain ⟨b1, o1, rfl, hc1, hbw⟩ := sb_cell0 HSb.out
        have ha : (a.toNat : Int) < 128 := by simp at hs; omega
        clear hs
        go_enter Try.func64, Try.ntmps64
        go_wp2_with fail
        go_ret
        rw [hfin.out]
        exact ⟨_, rfl, own_lit0 (by simp only [World.size_alloc, size_gr, World.size_setCell, World.size_drew]) (by simp [bv]) rfl (by simp) (by simp), by (repeat (first | exact Below.refl _ _ | refine bg_al ?_ | refine bg_gr ?_ | refine bg_drn ?_ | refine bg_dr ?_ | assumption))⟩
      · have hfin : Hid (formI (.mk false bs (E.map (·.x))) = headB bs.length 128 ++ bs) := by show _ = _; rw [formI]; simp only [Bool.false_eq_true, if_false]; rw [if_neg hs]
        by_cases h1 : bs.length = 1
        · match bs, h1, hs, HSb, hfin with
          | [a], h1, hs, HSb, hfin =>
          obtain ⟨b1, o1, rfl, hc1, hbw⟩ := sb_cell0 HSb.out
          have ha : ¬ (a.toNat : Int) < 128 := by simp at hs; omega
          clear hs h1
          go_enter Try.func64, Try.ntmps64
          go_wp2_with fail
          refine with_world (fun W0 hW0 => ?_); have hz0 := congrArg (fun W => W.heap.size) hW0; have hc0 := fun (b o : Nat) => congrArg (fun W => World.cell? W ⟨b, o, none⟩) hW0; (try simp only [World.size_alloc, size_gr, World.size_drew] at hz0); (try dsimp only at hc0); have HW0 := Lib.hid hW0; clear hW0; go_region_held3 (fun W => ∀ (b o : Nat), b < W0.heap.size → W.cell? ⟨b, o, none⟩ = W0.cell? ⟨b, o, none⟩) (exact cellB (by (repeat (first | exact Below.refl _ _ | refine bg_al ?_ | refine bg_gr ?_ | refine bg_drn ?_ | refine bg_dr ?_ | assumption))))
            (first
              | (go_at_call 76; refine (rhead_any 1 128 (.inl rfl) (by omega) _).mono ?_; rintro en w7 ⟨v, rfl, ho, hb⟩; obtain ⟨D4, rfl⟩ := gr_of_below hb; obtain ⟨A7, c7, rfl, -⟩ := ho.form; clear hb)
              | (refine st_own (headB 1 128) [a] _ ((headB 1 128).length + 1) rfl (by simp) rfl rfl rfl (by rfl) ho (by rfl) (HSb.out.below (bel_trans (a := W0) (by rw [HW0.out]; (repeat (first | exact Below.refl _ _ | refine bg_al ?_ | refine bg_gr ?_ | refine bg_drn ?_ | refine bg_dr ?_ | assumption))) (by (repeat (first | exact Below.refl _ _ | refine bg_al ?_ | refine bg_gr ?_ | refine bg_drn ?_ | refine bg_dr ?_ | assumption))))) (by have := headB_len (n := 1) (by omega) 128; simp; omega) ?_; intro D5 A8 c8 ho8 hc8 hm8))
          all_goals
            (have hW0 := HW0.out; clear HW0 hz0 hc0; (try clear hHeld); subst hW0)
            go_wp2_with fail
            go_ret
            rw [hfin.out]
            exact ⟨_, rfl, (ho8 _ (by (repeat (first | (refine at_base ?_; simp only [World.size_alloc, size_gr, World.size_setCell, World.size_drew]; done) | (refine at_base ?_; rfl) | refine at_al ?_ | refine at_gr ?_ | refine at_drn ?_ | refine at_dr ?_ | assumption)))).mono (by simp), by (repeat (first | exact Below.refl _ _ | refine bg_al ?_ | refine bg_gr ?_ | refine bg_drn ?_ | refine bg_dr ?_ | assumption))⟩
        · have h1' : ((bs.length : Int) == 1) = false := beq_eq_false_iff_ne.2 (by omega)
          clear hs
          go_enter Try.func64, Try.ntmps64
          go_wp2_with fail
          refine with_world (fun W0 hW0 => ?_); have hz0 := congrArg (fun W => W.heap.size) hW0; have hc0 := fun (b o : Nat) => congrArg (fun W => World.cell? W ⟨b, o, none⟩) hW0; (try simp only [World.size_alloc, size_gr, World.size_drew] at hz0); (try dsimp only at hc0); have HW0 := Lib.hid hW0; clear hW0; go_region_held3 (fun W => ∀ (b o : Nat), b < W0.heap.size → W.cell? ⟨b, o, none⟩ = W0.cell? ⟨b, o, none⟩) (exact cellB (by (repeat (first | exact Below.refl _ _ | refine bg_al ?_ | refine bg_gr ?_ | refine bg_drn ?_ | refine bg_dr ?_ | assumption))))
            (first
              | (go_at_call 76; refine (rhead_any bs.length 128 (.inl rfl) (by omega) _).mono ?_; rintro en w7 ⟨v, rfl, ho, hb⟩; obtain ⟨D4, rfl⟩ := gr_of_below hb; obtain ⟨A7, c7, rfl, -⟩ := ho.form; clear hb)
              | (refine st_own (headB bs.length 128) bs _ ((headB bs.length 128).length + bs.length) rfl (by simp) rfl rfl rfl (by rfl) ho (by rfl) (HSb.out.below (bel_trans (a := W0) (by rw [HW0.out]; (repeat (first | exact Below.refl _ _ | refine bg_al ?_ | refine bg_gr ?_ | refine bg_drn ?_ | refine bg_dr ?_ | assumption))) (by (repeat (first | exact Below.refl _ _ | refine bg_al ?_ | refine bg_gr ?_ | refine bg_drn ?_ | refine bg_dr ?_ | assumption))))) (by have := headB_len (n := bs.length) (by omega) 128; simp; omega) ?_; intro D5 A8 c8 ho8 hc8 hm8))
          all_goals
            (have hW0 := HW0.out; clear HW0 hz0 hc0; (try clear hHeld); subst hW0)
            go_wp2_with fail
            go_ret
            rw [hfin.out]
            exact ⟨_, rfl, (ho8 _ (by (repeat (first | (refine at_base ?_; simp only [World.size_alloc, size_gr, World.size_setCell, World.size_drew]; done) | (refine at_base ?_; rfl) | refine at_al ?_ | refine at_gr ?_ | refine at_drn ?_ | refine at_dr ?_ | assumption)))).mono (by simp), by (repeat (first | exact Below.refl _ _ | refine bg_al ?_ | refine bg_gr ?_ | refine bg_drn ?_ | refine bg_dr ?_ | assumption))⟩
    | true =>
      have hwl : wtL (E.map (·.x)) ≤ 1099511627776 := by have := HW.out; rw [wtI] at this; omega
      have HWL := Lib.hid hwl
      clear hwl
      go_enter Try.func64, Try.ntmps64
      go_wp2_with fail
      go_loopw [3, 35] (fun v3 v wr => ∃ (i : Nat) (Ab : Option Addr) (cb nb : Nat) (lb : List UInt8), i ≤ E.length ∧ v = .int .i64 i ∧ v3 = .slice Ab nb cb ∧ lb.length = nb ∧ formL (E.map (·.x)) = lb ++ formL ((E.drop i).map (·.x)) ∧ lb.length + wtL ((E.drop i).map (·.x)) ≤ 1099511627776 ∧ OwnB wr w'.heap.size (.slice Ab nb cb) lb ∧ ∃ D, wr = w'.gr D) (fun _ v _ => E.length - (intOf v).toNat)
      case atStart => exact ⟨0, none, 0, 0, [], by omega, rfl, rfl, rfl, by simp, by simpa using HWL.out, OwnB.nil _ _, gr_of_below (by (repeat (first | exact Below.refl _ _ | refine bg_al ?_ | refine bg_gr ?_ | refine bg_drn ?_ | refine bg_dr ?_ | assumption)))⟩
      case round =>
        obtain ⟨i, Ab, cb, nb, lb, hi, rfl, rfl, hnb, hq, hsz, ho, D, rfl⟩ := hrel
        have HN := Lib.hid hnb
        clear hnb
        by_cases hi1 : i < E.length
        · obtain ⟨b, off, l2, A5, n5, c5, A6, n6, c6, rfl, e0, e1, e2, f0, f1, f2, hbw⟩ := HE.out (w'.gr D) i (bel_trans HB.out (by (repeat (first | exact Below.refl _ _ | refine bg_al ?_ | refine bg_gr ?_ | refine bg_drn ?_ | refine bg_dr ?_ | assumption)))) hi1
          have h1i : (i : Int) < (E.length : Int) := by omega
          have hi0 : (0 : Int) ≤ (i : Int) := by omega
          rw [drop_map hi1, formL] at hq
          rw [drop_map hi1, wtL] at hsz
          have hfl := formI_le E[i].x (by omega)
          have HQ := Lib.hid hq
          have HSZ := Lib.hid hsz
          have HO := Lib.hid ho
          have hc := HIh.out E[i] (List.getElem_mem _)
          rw [f0, f1, f2] at hc
          have HC := Lib.hid hc
          clear hq f0 f1 f2 hc ho
          go_wp2_with fail
          refine (HC.out _ (bel_trans HB.out (by (repeat (first | exact Below.refl _ _ | refine bg_al ?_ | refine bg_gr ?_ | refine bg_drn ?_ | refine bg_dr ?_ | assumption)))) (by have := HSZ.out; omega)).mono ?_
          rintro en w9 ⟨v9, rfl, ho9, hb⟩; obtain ⟨D2, rfl⟩ := gr_of_below hb; clear hb
          obtain ⟨A9, c9, rfl, -⟩ := ho9.form
          have HO9 := Lib.hid ho9
          clear ho9
          go_wp2_with (at_builtin; go_must (refine ap_any (W0 := w') lb (formI E[i].x) (lb ++ formI E[i].x) (nb + (formI E[i].x).length) rfl (by rw [List.length_append, HN.out]) rfl rfl rfl (by rfl) (HO.out.below (by (repeat (first | exact Below.refl _ _ | refine bg_al ?_ | refine bg_gr ?_ | refine bg_drn ?_ | refine bg_dr ?_ | assumption)))) (by rfl) HO9.out.sb (by have := HSZ.out; omega) (Nat.le_refl _) (by (repeat (first | exact Below.refl _ _ | refine bg_al ?_ | refine bg_gr ?_ | refine bg_drn ?_ | refine bg_dr ?_ | assumption))) (by simp only [World.size_alloc, size_gr]; omega) ?_; intro w8 A10 c10 ho10 hb10 hc10))
          have HO10 := Lib.hid ho10
          have HB10 := Lib.hid hb10
          clear ho10 hb10 hc10
          exact ⟨⟨i + 1, _, _, _, _, by omega, by go_num, rfl, by rw [List.length_append, HN.out], by rw [HQ.out]; simp, by have := HSZ.out; simp only [List.length_append]; omega, HO10.out, gr_of_below HB10.out⟩, by simp [intOf]; omega⟩
        · obtain rfl : i = E.length := by omega
          have h1i : ¬ (E.length : Int) < (E.length : Int) := by omega
          have hlb : formL (E.map (·.x)) = lb := by rw [hq]; simp [formL]
          obtain rfl := HN.out
          have hfin : Hid (formI (.mk true bs (E.map (·.x))) = headB lb.length 192 ++ lb) := by show _ = _; rw [formI, hlb]; rfl
          have hlb2 : lb.length ≤ 1099511627776 := by omega
          have HO := Lib.hid ho
          clear hq ho hlb hsz HN
          go_wp2_with fail
          refine (rhead_any lb.length 192 (.inr rfl) hlb2 _).mono ?_
          rintro en w9 ⟨v9, rfl, ho9, hb⟩; obtain ⟨D2, rfl⟩ := gr_of_below hb; clear hb
          obtain ⟨A9, c9, rfl, -⟩ := ho9.form
          have HO9 := Lib.hid ho9
          clear ho9
          have h8 := headB_len (n := lb.length) (by omega) 192
          go_wp2_with (at_builtin; go_must (refine ap_own (headB lb.length 192) lb _ ((headB lb.length 192).length + lb.length) rfl (by simp) rfl rfl rfl (by rfl) HO9.out (by rfl) (HO.out.sb.below (by (repeat (first | exact Below.refl _ _ | refine bg_al ?_ | refine bg_gr ?_ | refine bg_drn ?_ | refine bg_dr ?_ | assumption)))) (by omega) ?_; intro D7 A7 c7 ho7 hc7 hm7))
          go_ret
          rw [hfin.out]
          exact ⟨_, rfl, (ho7 _ (by (repeat (first | (refine at_base ?_; simp only [World.size_alloc, size_gr, World.size_setCell, World.size_drew]; done) | (refine at_base ?_; rfl) | refine at_al ?_ | refine at_gr ?_ | refine at_drn ?_ | refine at_dr ?_ | assumption)))).mono (by rw [size_gr]; omega), by (repeat (first | exact Below.refl _ _ | refine bg_al ?_ | refine bg_gr ?_ | refine bg_drn ?_ | refine bg_dr ?_ | assumption))⟩
end Go.Proofs.Ytdhkhdeblkbojaa
