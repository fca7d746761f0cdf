/- does of the plain thing: the cases that write its map. does of the plain thing: the cases that write its map. -/
import Derived.Test.YtcbglojjbgenlaaHnI
namespace Go.Proofs.Ytcbglojjbgenlaa
open Go.RowKit Go.MapL Go.ChangeMaps Go.MapKept
set_option linter.unusedSimpArgs false
set_option linter.unusedVariables false
attribute [local go_sem] size_gr cell_gr frozen_gr setCell_gr gr_drew gr_drewN lt_k lt_kc le_k le_kc sub_kc nil29 nil28 nil49 mkmap size_setBlock cell_setB opC_len opC_0 opC_33 opC_34 opC_35 opC_0g opC_33g opC_34g opC_35g
attribute [local go_sem ↓] Go.wp_at_zero Go.wp_at_succ loadAt_key

set_option maxHeartbeats 1000000 in
set_option maxRecDepth 8000 in
theorem putnew {w0 w : World} {D : Nat} {F : Nat → Prop} {P : Nat} {s : Hn} {keys : List H32} {datas : List Bs} {k : Nat} (h : LInv w0 w D F P s keys datas k) (hk : k < 1000000) (o : Opv) (ho : SB w0 o.da o.data) (hol : o.data.length ≤ 1048576) (hkind : o.kind = 2) (hl : o.data.length ≤ 1024) (hq : o.key ∉ keys) (hroom : (keys.length : Int) < s.slots) :
    Calls Try.prog 26 #[.pointer (some ⟨P, 0, none⟩), .pointer (some ⟨D, 0, none⟩), .agg (opC o).toArray] w fun e w' => e = .returned (.bool true) ∧ LDone w0 w' D P (k + 1) := by
  have HH := Lib.hid (head_mk o h)
  obtain ⟨kA, kc, dA, dc, lA, lc, hc0, hc1, hc2, hc3, hc4, hc5, hPlt, hpsb⟩ := h.cells
  have HK := Lib.hid hk
  have HO := Lib.hid ho
  have HOL := Lib.hid hol
  have hr1 : s.room ≤ 1048576 := by have := h.bd.room; omega
  have hlg : (s.log.length : Int) ≤ 1048576 := by have := h.bd.room; have := h.bd.log; omega
  have hol2 : (o.data.length : Int) ≤ 1048576 := by omega
  have hk1 : ((o.kind == 1) : Bool) = false := by rw [hkind]; rfl
  have hk2 : ((o.kind == 2) : Bool) = true := by rw [hkind]; rfl
  have hat : atI keys o.key = -1 := by unfold atI; rw [if_neg hq]
  have HQ := Lib.hid (h.kd.no _ hq)
  have HL := Lib.hid hl
  have HNQ := Lib.hid hq
  have HRM := Lib.hid hroom
  have HROOM : Hid ((s.blobs o.key).isSome = true ∨ (s.n : Int) < s.slots) := Lib.hid (Or.inr (by have := h.kd.n; omega))
  have HBD := Lib.hid h.bd
  have hl2 : ¬ (1024 : Int) < (o.data.length : Int) := by omega
  have hkl : (keys.length : Int) ≤ 8 := by have := h.bd.slots; omega
  have hno : ¬ s.slots ≤ (keys.length : Int) := by omega
  clear h hpsb hk ho hol
  go_enter Try.func26, Try.ntmps26
  go_wp2_with (first
    | (refine wpList_load_mid rfl 33 _ rfl _ _ (by rfl) (o.key.1.map bv) _ (op_c (HH.out.op _ (by (repeat (first | exact Below.refl _ _ | refine bg_al ?_ | refine bg_gr ?_ | refine bg_drn ?_ | refine bg_dr ?_ | assumption))))).2.1 Try.underlying33 rfl (hash_info o.key) ?_)
    | (go_at_call 40; refine (HH.out.at_ _ (by (repeat (first | exact Below.refl _ _ | refine bg_al ?_ | refine bg_gr ?_ | refine bg_drn ?_ | refine bg_dr ?_ | assumption)))).mono ?_; rw [hat]; rintro en w1 ⟨rfl, hb1⟩; obtain ⟨D1, rfl⟩ := gr_of_below hb1; clear hb1)
    | (go_at_call 12; refine (put_p (q := o.key) (l := o.data) (HH.out.inv.below (by (repeat (first | exact Below.refl _ _ | refine bg_al ?_ | refine bg_gr ?_ | refine bg_drn ?_ | refine bg_dr ?_ | assumption)))).dev (by have := HK.out; omega) (HO.out.below (show Below w0.heap.size w0 _ from HH.out.inv.bel.trans ((show Below w.heap.size w _ by (repeat (first | exact Below.refl _ _ | refine bg_al ?_ | refine bg_gr ?_ | refine bg_drn ?_ | refine bg_dr ?_ | assumption))).mono HH.out.inv.bel.size))) HL.out HROOM.out).mono ?_; rintro en w2 ⟨rfl, ha⟩; have HSD := Lib.hid (HO.out.below ((HH.out.inv.below (by (repeat (first | exact Below.refl _ _ | refine bg_al ?_ | refine bg_gr ?_ | refine bg_drn ?_ | refine bg_dr ?_ | assumption)))).call2 ha).bel); have HM := Lib.hid ((HH.out.inv.below (by (repeat (first | exact Below.refl _ _ | refine bg_al ?_ | refine bg_gr ?_ | refine bg_drn ?_ | refine bg_dr ?_ | assumption)))).call2 ha); have HOP := Lib.hid (op_after HH.out (by (repeat (first | exact Below.refl _ _ | refine bg_al ?_ | refine bg_gr ?_ | refine bg_drn ?_ | refine bg_dr ?_ | assumption))) ha); obtain ⟨b0, -, b33, b34, b35, -⟩ := op_c HOP.out; obtain ⟨kA2, kc2, dA2, dc2, lv2, vals2, hP2, hPF, hK2, hKF, hD2, hDF, hV2, hsb2⟩ := HM.out.rows; have HP2 := Lib.hid hP2; have HSB2 := Lib.hid hsb2; have HPF := Lib.hid hPF; have HK2 := Lib.hid hK2; have HKF := Lib.hid hKF; have HD2 := Lib.hid hD2; have HDF := Lib.hid hDF; have HV2 := Lib.hid hV2; obtain ⟨p0, p1, p2, p3, p4, p5, plt⟩ := pl_c hP2; have pf2 := pl_fr hP2 2; have pf3 := pl_fr hP2 3; have olt := op_lt HOP.out; clear ha hP2 hsb2 hPF hK2 hKF hD2 hDF hV2))
  go_quiet (fail)
  go_wp2_with fail
  refine with_world (fun W2 hW2 => ?_)
  have hbW : Below w2.heap.size w2 W2 := by rw [hW2]; (repeat (first | exact Below.refl _ _ | refine bg_al ?_ | refine bg_gr ?_ | refine bg_drn ?_ | refine bg_dr ?_ | assumption))
  have HBW := Lib.hid hbW
  have HP3 := Lib.hid (pl_bel HP2.out hbW)
  have HOP3 := Lib.hid (op_bel HOP.out hbW)
  have HK3 := Lib.hid (own_below HK2.out hbW)
  obtain ⟨-, -, q2, q3, -, -, qlt⟩ := pl_c HP3.out
  have qf2 := pl_fr HP3.out 2
  obtain ⟨-, -, q33, -⟩ := op_c HOP3.out
  have olt2 : w.heap.size < W2.heap.size := by have := hbW.size; omega
  clear hW2 hbW
  have hql : (o.key.1.map bv).length = 32 := q_len o.key
  have hld : (KeyLoad (.pointer (some ⟨w.heap.size, 1, none⟩))).run Try.prog W2.drew = .ok (.agg (o.key.1.map bv).toArray) W2.drew := ld_key (op_c (op_bel (op_bel HOP.out HBW.out) (bg_dr (Below.refl _ _)))).2.1
  go_region_law (first
    | (rw [fold_hash]; refine step_ap hashesT (by rfl) (by rfl) (by rfl) (own_below HK3.out (show Below W2.heap.size W2 _ by (repeat (first | exact Below.refl _ _ | refine bg_al ?_ | refine bg_gr ?_ | refine bg_drn ?_ | refine bg_dr ?_ | assumption)))) (by rfl) (Src.block (m := 1) (cs := (encH o.key).toArray) (t := 33) (fr := (0, 0)) (by (repeat (first | (refine blk_new ?_; first | rfl | (simp only [World.size_alloc, size_gr, World.size_setCell, World.size_drew]; done) | (simp only [World.size_alloc, size_gr, World.size_setCell, World.size_drew]; omega) | omega) | refine blk_dr ?_ | refine blk_drn ?_ | refine blk_al (by simp only [World.size_alloc, size_gr, World.size_setCell, World.size_drew]; omega) ?_ | refine blk_gr (by simp only [World.size_alloc, size_gr, World.size_setCell, World.size_drew]; omega) ?_ | assumption))) (by rw [List.size_toArray, encH_len])) (bv_one o.key.1) (by simp only [maxLen]; omega) (by omega) (by have := HM.out.bel.size; have := HBW.out.size; simp; omega) ?_; intro v9 w9 hap; obtain ⟨kA9, kc9, rfl⟩ := row_slice hap.1; have hP9 := ap_pl hap (own_below HK3.out (show Below W2.heap.size W2 _ by (repeat (first | exact Below.refl _ _ | refine bg_al ?_ | refine bg_gr ?_ | refine bg_drn ?_ | refine bg_dr ?_ | assumption)))) (by decide) (pl_bel HP3.out (by (repeat (first | exact Below.refl _ _ | refine bg_al ?_ | refine bg_gr ?_ | refine bg_drn ?_ | refine bg_dr ?_ | assumption)))); have HP9 := Lib.hid hP9; have HOP9 := Lib.hid (ap_op hap (own_below HK3.out (show Below W2.heap.size W2 _ by (repeat (first | exact Below.refl _ _ | refine bg_al ?_ | refine bg_gr ?_ | refine bg_drn ?_ | refine bg_dr ?_ | assumption)))) (by decide) (op_bel HOP3.out (by (repeat (first | exact Below.refl _ _ | refine bg_al ?_ | refine bg_gr ?_ | refine bg_drn ?_ | refine bg_dr ?_ | assumption))))); obtain ⟨-, -, s2, s3, -, -, slt⟩ := pl_c hP9; have sf2 := pl_fr hP9 2; have HAP := Lib.hid hap; have HC9 := Lib.hid (ap_chg (own_below HK3.out (show Below W2.heap.size W2 _ by (repeat (first | exact Below.refl _ _ | refine bg_al ?_ | refine bg_gr ?_ | refine bg_drn ?_ | refine bg_dr ?_ | assumption)))) hap (show Below W2.heap.size W2 _ by (repeat (first | exact Below.refl _ _ | refine bg_al ?_ | refine bg_gr ?_ | refine bg_drn ?_ | refine bg_dr ?_ | assumption)))); clear hP9 hap))
  all_goals go_wp2_with fail
  all_goals
    refine with_world (fun W4 hW4 => ?_)
    have hc4 : Chg (fun j => j = P) w9 W4 := by rw [hW4]; exact (chg_set (S := fun j => j = P) (Chg.refl _ _) rfl _).trans (Below.chg _ (by (repeat (first | exact Below.refl _ _ | refine bg_al ?_ | refine bg_gr ?_ | refine bg_drn ?_ | refine bg_dr ?_ | assumption))))
    have hP4 := show PlAt W4 P s.slots s.room (.slice kA9 (keys.length + 1) kc9) (.slice dA2 keys.length dc2) lv2 s.cnt s.tag from by rw [hW4]; exact pl_bel (pl_set2 HP9.out _) (by (repeat (first | exact Below.refl _ _ | refine bg_al ?_ | refine bg_gr ?_ | refine bg_drn ?_ | refine bg_dr ?_ | assumption)))
    have HC4 := Lib.hid hc4
    have HP4 := Lib.hid hP4
    have hD4 := own_plc (own_apc (own_below HD2.out (HBW.out.trans ((show Below W2.heap.size W2 _ by (repeat (first | exact Below.refl _ _ | refine bg_al ?_ | refine bg_gr ?_ | refine bg_drn ?_ | refine bg_dr ?_ | assumption))).mono HBW.out.size))) HAP.out (own_below HK3.out (show Below W2.heap.size W2 _ by (repeat (first | exact Below.refl _ _ | refine bg_al ?_ | refine bg_gr ?_ | refine bg_drn ?_ | refine bg_dr ?_ | assumption)))) (by decide)) (by decide) HP9.out hc4
    have HD4 := Lib.hid hD4
    have hO4 := op_chg HOP9.out hc4 (fun e => by
      have h1 := HOP9.out
      have h2 := HP9.out
      unfold OpAt at h1
      unfold PlAt at h2
      rw [e, h2] at h1
      injection h1 with h1
      injection h1 with _ h1
      exact absurd h1 (by decide))
    obtain ⟨-, -, -, x3, -, -, xlt⟩ := pl_c hP4
    have xf3 := pl_fr hP4 3
    obtain ⟨-, -, x33, -⟩ := op_c hO4
    have xolt := op_lt hO4
    have hsz4 : w0.heap.size ≤ W4.heap.size := by
      have h1 := HM.out.bel.size
      have h2 := HBW.out.size
      have h3 := HAP.out.2.1.size
      have h4 := hc4.size
      simp at h3
      omega
    clear hW4 hc4 hP4 hD4 hO4
    go_region_law (first
      | (refine step_ap listsT (by rfl) (by rfl) (by rfl) (own_below HD4.out (show Below W4.heap.size W4 _ by (repeat (first | exact Below.refl _ _ | refine bg_al ?_ | refine bg_gr ?_ | refine bg_drn ?_ | refine bg_dr ?_ | assumption)))) (by rfl) (Src.block (m := 1) (cs := #[o.da]) (t := 29) (fr := (0, 0)) (by (repeat (first | (refine blk_new ?_; first | rfl | (simp only [World.size_alloc, size_gr, World.size_setCell, World.size_drew]; done) | (simp only [World.size_alloc, size_gr, World.size_setCell, World.size_drew]; omega) | omega) | refine blk_dr ?_ | refine blk_drn ?_ | refine blk_al (by simp only [World.size_alloc, size_gr, World.size_setCell, World.size_drew]; omega) ?_ | refine blk_gr (by simp only [World.size_alloc, size_gr, World.size_setCell, World.size_drew]; omega) ?_ | assumption))) (by rfl)) (one_single (u := o.da) rfl) (by simp only [maxLen]; omega) (by omega) (by simp; omega) ?_; intro v10 w10 hap2; obtain ⟨dA10, dc10, rfl⟩ := row_slice hap2.1; have hP10 := ap_pl hap2 (own_below HD4.out (show Below W4.heap.size W4 _ by (repeat (first | exact Below.refl _ _ | refine bg_al ?_ | refine bg_gr ?_ | refine bg_drn ?_ | refine bg_dr ?_ | assumption)))) (by decide) (pl_bel HP4.out (by (repeat (first | exact Below.refl _ _ | refine bg_al ?_ | refine bg_gr ?_ | refine bg_drn ?_ | refine bg_dr ?_ | assumption)))); have HP10 := Lib.hid hP10; obtain ⟨-, -, -, y3, -, -, ylt⟩ := pl_c hP10; have yf3 := pl_fr hP10 3; have HAP2 := Lib.hid hap2; clear hP10 hap2))
  all_goals go_wp2_with fail
  all_goals  go_ret
  all_goals
    refine ⟨rfl, _, _, _, _, put_fin (q := o.key) (l := o.data) HM.out HP2.out HPF.out HK2.out HKF.out HD2.out HDF.out HV2.out HSB2.out (HBW.out.trans ((show Below W2.heap.size W2 _ by (repeat (first | exact Below.refl _ _ | refine bg_al ?_ | refine bg_gr ?_ | refine bg_drn ?_ | refine bg_dr ?_ | assumption))).mono HBW.out.size)) HAP.out HC4.out HP4.out (by (repeat (first | exact Below.refl _ _ | refine bg_al ?_ | refine bg_gr ?_ | refine bg_drn ?_ | refine bg_dr ?_ | assumption))) HAP2.out ((chg_set (S := fun j => j = P) (Chg.refl _ _) rfl _).trans (Below.chg _ (by (repeat (first | exact Below.refl _ _ | refine bg_al ?_ | refine bg_gr ?_ | refine bg_drn ?_ | refine bg_dr ?_ | assumption))))) (pl_bel (pl_set3 HP10.out _) (by (repeat (first | exact Below.refl _ _ | refine bg_al ?_ | refine bg_gr ?_ | refine bg_drn ?_ | refine bg_dr ?_ | assumption)))) HO.out HL.out HNQ.out (by rw [HQ.out]; rfl) HRM.out⟩
end Go.Proofs.Ytcbglojjbgenlaa
namespace Go.Proofs.Ytcbglojjbgenlaa
open Go.RowKit Go.MapL Go.ChangeMaps Go.MapKept
set_option linter.unusedSimpArgs false
set_option linter.unusedVariables false
attribute [local go_sem] size_gr cell_gr frozen_gr setCell_gr gr_drew gr_drewN lt_k lt_kc le_k le_kc sub_kc nil29 nil28 nil49 mkmap size_setBlock cell_setB opC_len opC_0 opC_33 opC_34 opC_35 opC_0g opC_33g opC_34g opC_35g
attribute [local go_sem ↓] Go.wp_at_zero Go.wp_at_succ loadAt_key

set_option maxHeartbeats 1000000 in
set_option maxRecDepth 8000 in
theorem putold {w0 w : World} {D : Nat} {F : Nat → Prop} {P : Nat} {s : Hn} {keys : List H32} {datas : List Bs} {k : Nat} (h : LInv w0 w D F P s keys datas k) (hk : k < 1000000) (o : Opv) (ho : SB w0 o.da o.data) (hol : o.data.length ≤ 1048576) (hkind : o.kind = 2) (hl : o.data.length ≤ 1024) (hq : o.key ∈ keys) :
    Calls Try.prog 26 #[.pointer (some ⟨P, 0, none⟩), .pointer (some ⟨D, 0, none⟩), .agg (opC o).toArray] w fun e w' => e = .returned (.bool true) ∧ LDone w0 w' D P (k + 1) := by
  have HH := Lib.hid (head_mk o h)
  obtain ⟨kA, kc, dA, dc, lA, lc, hc0, hc1, hc2, hc3, hc4, hc5, hPlt, hpsb⟩ := h.cells
  have HK := Lib.hid hk
  have HO := Lib.hid ho
  have HOL := Lib.hid hol
  have hr1 : s.room ≤ 1048576 := by have := h.bd.room; omega
  have hlg : (s.log.length : Int) ≤ 1048576 := by have := h.bd.room; have := h.bd.log; omega
  have hol2 : (o.data.length : Int) ≤ 1048576 := by omega
  have hk1 : ((o.kind == 1) : Bool) = false := by rw [hkind]; rfl
  have hk2 : ((o.kind == 2) : Bool) = true := by rw [hkind]; rfl
  obtain ⟨j, hj, hkj⟩ := List.mem_iff_getElem.1 hq
  have hat : atI keys o.key = (j : Int) := by
    unfold atI
    rw [if_pos hq]
    congr 1
    exact nodup_inj h.kd.nd (List.idxOf_lt_length_iff.2 hq) hj ((List.getElem_idxOf (List.idxOf_lt_length_iff.2 hq)).trans hkj.symm)
  have hbs : (s.blobs o.key).isSome = true := (h.kd.iff _).2 hq
  have hkl : (keys.length : Int) ≤ 8 := by have := h.bd.slots; have := h.bd.keys; omega
  have hj0 : ¬ (j : Int) < 0 := by omega
  have hj1 : (0 : Int) ≤ (j : Int) := by omega
  have hj2 : (j : Int) < (keys.length : Int) := by omega
  have hjd : decide ((j : Int) < 0) = false := by simp
  have HKJ := Lib.hid hkj
  have HJ := Lib.hid hj
  have HL := Lib.hid hl
  have HROOM : Hid ((s.blobs o.key).isSome = true ∨ (s.n : Int) < s.slots) := Lib.hid (Or.inl hbs)
  have HBS := Lib.hid hbs
  have hl2 : ¬ (1024 : Int) < (o.data.length : Int) := by omega
  clear hkj hbs
  clear h hpsb hk ho hol
  go_enter Try.func26, Try.ntmps26
  go_wp2_with (first
    | (refine wpList_load_mid rfl 33 _ rfl _ _ (by rfl) (o.key.1.map bv) _ (op_c (HH.out.op _ (by (repeat (first | exact Below.refl _ _ | refine bg_al ?_ | refine bg_gr ?_ | refine bg_drn ?_ | refine bg_dr ?_ | assumption))))).2.1 Try.underlying33 rfl (hash_info o.key) ?_)
    | (go_at_call 40; refine (HH.out.at_ _ (by (repeat (first | exact Below.refl _ _ | refine bg_al ?_ | refine bg_gr ?_ | refine bg_drn ?_ | refine bg_dr ?_ | assumption)))).mono ?_; rw [hat]; rintro en w1 ⟨rfl, hb1⟩; obtain ⟨D1, rfl⟩ := gr_of_below hb1; clear hb1)
    | (go_at_call 12; refine (put_p (q := o.key) (l := o.data) (HH.out.inv.below (by (repeat (first | exact Below.refl _ _ | refine bg_al ?_ | refine bg_gr ?_ | refine bg_drn ?_ | refine bg_dr ?_ | assumption)))).dev (by have := HK.out; omega) (HO.out.below (show Below w0.heap.size w0 _ from HH.out.inv.bel.trans ((show Below w.heap.size w _ by (repeat (first | exact Below.refl _ _ | refine bg_al ?_ | refine bg_gr ?_ | refine bg_drn ?_ | refine bg_dr ?_ | assumption))).mono HH.out.inv.bel.size))) HL.out HROOM.out).mono ?_; rintro en w2 ⟨rfl, ha⟩; have HSD := Lib.hid (HO.out.below ((HH.out.inv.below (by (repeat (first | exact Below.refl _ _ | refine bg_al ?_ | refine bg_gr ?_ | refine bg_drn ?_ | refine bg_dr ?_ | assumption)))).call2 ha).bel); have HM := Lib.hid ((HH.out.inv.below (by (repeat (first | exact Below.refl _ _ | refine bg_al ?_ | refine bg_gr ?_ | refine bg_drn ?_ | refine bg_dr ?_ | assumption)))).call2 ha); have HOP := Lib.hid (op_after HH.out (by (repeat (first | exact Below.refl _ _ | refine bg_al ?_ | refine bg_gr ?_ | refine bg_drn ?_ | refine bg_dr ?_ | assumption))) ha); obtain ⟨b0, -, b33, b34, b35, -⟩ := op_c HOP.out; obtain ⟨kA2, kc2, dA2, dc2, lv2, vals2, hP2, hPF, hK2, hKF, hD2, hDF, hV2, hsb2⟩ := HM.out.rows; have HP2 := Lib.hid hP2; have HSB2 := Lib.hid hsb2; have HPF := Lib.hid hPF; have HK2 := Lib.hid hK2; have HKF := Lib.hid hKF; have HD2 := Lib.hid hD2; have HDF := Lib.hid hDF; have HV2 := Lib.hid hV2; obtain ⟨p0, p1, p2, p3, p4, p5, plt⟩ := pl_c hP2; have pf2 := pl_fr hP2 2; have pf3 := pl_fr hP2 3; have olt := op_lt HOP.out; clear ha hP2 hsb2 hPF hK2 hKF hD2 hDF hV2))
  go_quiet (fail)
  go_wp2_with fail
  refine with_world (fun W2 hW2 => ?_)
  have hbW : Below w2.heap.size w2 W2 := by rw [hW2]; (repeat (first | exact Below.refl _ _ | refine bg_al ?_ | refine bg_gr ?_ | refine bg_drn ?_ | refine bg_dr ?_ | assumption))
  have HBW := Lib.hid hbW
  obtain ⟨gd, cd, e1, -⟩ := own_form HD2.out (by omega)
  injection e1 with e1 _ e3
  subst e1
  have HD3 := Lib.hid (own_below HD2.out hbW)
  have HP3 := Lib.hid (pl_bel HP2.out hbW)
  obtain ⟨-, -, -, q3, -, -, qlt⟩ := pl_c HP3.out
  have HOP3 := Lib.hid (op_bel HOP.out hbW)
  obtain ⟨-, -, q33, -⟩ := op_c HOP3.out
  have qolt := op_lt HOP3.out
  have hvl : vals2.length = keys.length := by simpa using HD2.out.1
  have hcj : W2.cell? ⟨gd, j, none⟩ = some (vals2[j]'(by omega)) := by
    have := HD3.out.cells (g := gd) rfl j (vals2[j]'(by omega)) (List.getElem?_eq_getElem (by omega))
    rwa [addr_add, Nat.zero_add] at this
  have hfj : W2.frozen? ⟨gd, j, none⟩ = false := by
    rcases HD3.out.2 with ⟨e, _⟩ | ⟨g', cap', cur, e, _, hg, _⟩
    · cases e
    · injection e with e
      injection e with e
      injection e with e
      subst e
      exact frozen_of_row _ _ _ _ _ hg
  have hcap : (keys.length : Int) ≤ dc2 := by
    rcases HD2.out.2 with ⟨e, _⟩ | ⟨g', cap', cur, e, _, hg, hn, _⟩
    · cases e
    · injection e with _ _ e
      omega
  have hgl : gd < W2.heap.size := World.block_lt_of_cell? W2 _ hcj
  clear hW2 hbW
  go_region_law (fail)
  all_goals go_wp2_with fail
  all_goals  go_ret
  all_goals
    exact ⟨rfl, _, _, _, _, set_fin (q := o.key) (l := o.data) HM.out HP2.out HPF.out HK2.out HKF.out HD2.out HDF.out HV2.out HSB2.out j HJ.out HKJ.out (((Below.chg _ HBW.out).trans (chg_set (S := fun i => i = gd) (Chg.refl _ W2) (g := gd) (i := j) rfl o.da)).trans (Below.chg _ (show Below (W2.setCell ⟨gd, j, none⟩ o.da).heap.size (W2.setCell ⟨gd, j, none⟩ o.da) _ by (repeat (first | exact Below.refl _ _ | refine bg_al ?_ | refine bg_gr ?_ | refine bg_drn ?_ | refine bg_dr ?_ | assumption))))) (own_below (own_set HD3.out j HJ.out o.da) (by (repeat (first | exact Below.refl _ _ | refine bg_al ?_ | refine bg_gr ?_ | refine bg_drn ?_ | refine bg_dr ?_ | assumption)))) HO.out HL.out (by rw [HBS.out]; rfl)⟩
end Go.Proofs.Ytcbglojjbgenlaa
