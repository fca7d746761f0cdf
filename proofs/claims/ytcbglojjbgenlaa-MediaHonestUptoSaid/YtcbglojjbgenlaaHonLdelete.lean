/- does of the plain thing: the cases that write its map. -/
import Derived.Test.YtcbglojjbgenlaaHnI
import Derived.Test.YtcbglojjbgenlaaHnL
namespace Go.Proofs.Ytcbglojjbgenlaa
open Go.RowKit Go.MapL Go.ChangeMaps Go.MapKept
set_option linter.unusedSimpArgs false
set_option linter.unusedVariables false
attribute [local go_sem] size_gr cell_gr frozen_gr setCell_gr gr_drew gr_drewN lt_k lt_kc le_k le_kc sub_kc nil29 nil28 nil49 mkmap size_setBlock cell_setB opC_len opC_0 opC_33 opC_34 opC_35 opC_0g opC_33g opC_34g opC_35g cutK_eq cutD_eq
attribute [local go_sem ↓] Go.wp_at_zero Go.wp_at_succ

set_option maxHeartbeats 4000000 in
set_option maxRecDepth 8000 in
theorem delete {w0 w : World} {D : Nat} {F : Nat → Prop} {P : Nat} {s : Hn} {keys : List H32} {datas : List Bs} {k : Nat} (h : LInv w0 w D F P s keys datas k) (hk : k < 1000000) (o : Opv) (ho : SB w0 o.da o.data) (hol : o.data.length ≤ 1048576) (hkind : o.kind = 3) (hq : o.key ∈ keys) :
    Calls Try.prog 26 #[.pointer (some ⟨P, 0, none⟩), .pointer (some ⟨D, 0, none⟩), .agg (opC o).toArray] w fun e w' => e = .returned (.bool true) ∧ LDone w0 w' D P (k + 1) := by
  have HH := Lib.hid (head_mk o h)
  obtain ⟨kA, kc, dA, dc, lA, lc, hc0, hc1, hc2, hc3, hc4, hc5, hPlt, hpsb⟩ := h.cells
  have HK := Lib.hid hk
  have HO := Lib.hid ho
  have HOL := Lib.hid hol
  have hr1 : s.room ≤ 1048576 := by have := h.bd.room; omega
  have hlg : (s.log.length : Int) ≤ 1048576 := by have := h.bd.room; have := h.bd.log; omega
  have hol2 : (o.data.length : Int) ≤ 1048576 := by omega
  have hk1 : ((o.kind == 1) : Bool) = false := by rw [hkind]; rfl
  have hk2 : ((o.kind == 2) : Bool) = false := by rw [hkind]; rfl
  have hk3 : ((o.kind == 3) : Bool) = true := by rw [hkind]; rfl
  obtain ⟨j, hj, hkj⟩ := List.mem_iff_getElem.1 hq
  have hat : atI keys o.key = (j : Int) := by
    unfold atI
    rw [if_pos hq]
    congr 1
    exact nodup_inj h.kd.nd (List.idxOf_lt_length_iff.2 hq) hj ((List.getElem_idxOf (List.idxOf_lt_length_iff.2 hq)).trans hkj.symm)
  have hbs : (s.blobs o.key).isSome = true := (h.kd.iff _).2 hq
  have hkl : (keys.length : Int) ≤ 8 := by have := h.bd.slots; have := h.bd.keys; omega
  have hj0 : ¬ (j : Int) < 0 := by omega
  have hj1 : (0 : Int) ≤ (j : Int) := by omega
  have hj2 : (j : Int) < (keys.length : Int) := by omega
  have hjd : decide ((j : Int) < 0) = false := by simp
  have HKJ := Lib.hid hkj
  have HJ := Lib.hid hj
  have hbl : ∃ l, s.blobs o.key = some l := Option.isSome_iff_exists.1 hbs
  have HBL := Lib.hid hbl
  have HBD := Lib.hid h.bd
  clear hkj hbs hbl
  clear h hpsb hk ho hol
  go_enter Try.func26, Try.ntmps26
  go_wp2_with (first
    | (refine wpList_load_mid rfl 33 _ rfl _ _ (by rfl) (o.key.1.map bv) _ (op_c (HH.out.op _ (by (repeat (first | exact Below.refl _ _ | refine bg_al ?_ | refine bg_gr ?_ | refine bg_drn ?_ | refine bg_dr ?_ | assumption))))).2.1 Try.underlying33 rfl (hash_info o.key) ?_)
    | (go_at_call 40; refine (HH.out.at_ _ (by (repeat (first | exact Below.refl _ _ | refine bg_al ?_ | refine bg_gr ?_ | refine bg_drn ?_ | refine bg_dr ?_ | assumption)))).mono ?_; rw [hat]; rintro en w1 ⟨rfl, hb1⟩; obtain ⟨D1, rfl⟩ := gr_of_below hb1; clear hb1)
    | (go_at_call 13; refine (delete_p (q := o.key) (HH.out.inv.below (by (repeat (first | exact Below.refl _ _ | refine bg_al ?_ | refine bg_gr ?_ | refine bg_drn ?_ | refine bg_dr ?_ | assumption)))).dev (by have := HK.out; omega) HBL.out.choose_spec).mono ?_; rintro en w2 ⟨rfl, ha⟩; have HM := Lib.hid ((HH.out.inv.below (by (repeat (first | exact Below.refl _ _ | refine bg_al ?_ | refine bg_gr ?_ | refine bg_drn ?_ | refine bg_dr ?_ | assumption)))).call2 ha); have HOP := Lib.hid (op_after HH.out (by (repeat (first | exact Below.refl _ _ | refine bg_al ?_ | refine bg_gr ?_ | refine bg_drn ?_ | refine bg_dr ?_ | assumption))) ha); obtain ⟨b0, -, b33, b34, b35, -⟩ := op_c HOP.out; obtain ⟨kA2, kc2, dA2, dc2, lv2, vals2, hP2, hPF, hK2, hKF, hD2, hDF, hV2, hsb2⟩ := HM.out.rows; have HP2 := Lib.hid hP2; have HSB2 := Lib.hid hsb2; have HPF := Lib.hid hPF; have HK2 := Lib.hid hK2; have HKF := Lib.hid hKF; have HD2 := Lib.hid hD2; have HDF := Lib.hid hDF; have HV2 := Lib.hid hV2; obtain ⟨p0, p1, p2, p3, p4, p5, plt⟩ := pl_c hP2; have pf2 := pl_fr hP2 2; have pf3 := pl_fr hP2 3; have olt := op_lt HOP.out; clear ha hP2 hsb2 hPF hK2 hKF hD2 hDF hV2))
  refine with_world (fun W2 hW2 => ?_)
  have hbW : Below w2.heap.size w2 W2 := by rw [hW2]; (repeat (first | exact Below.refl _ _ | refine bg_al ?_ | refine bg_gr ?_ | refine bg_drn ?_ | refine bg_dr ?_ | assumption))
  have HBW := Lib.hid hbW
  have HD3 := Lib.hid (own_below HD2.out hbW)
  have HK3 := Lib.hid (own_below HK2.out hbW)
  have HP3 := Lib.hid (pl_bel HP2.out hbW)
  obtain ⟨-, -, q2, q3, -, -, qlt⟩ := pl_c HP3.out
  have qf2 := pl_fr HP3.out 2
  obtain ⟨gk, kc3, e1, -⟩ := own_form HK2.out (by omega)
  injection e1 with e1 _ e3
  subst e1 e3
  obtain ⟨gd, dc3, e2, -⟩ := own_form HD2.out (by omega)
  injection e2 with e2 _ e4
  subst e2 e4
  have hkc : (keys.length : Int) ≤ kc2 := own_cap HK2.out
  have hdc : (keys.length : Int) ≤ dc2 := own_cap HD2.out
  have hjc : (j : Int) ≤ kc2 := by omega
  have hjc2 : (j : Int) ≤ dc2 := by omega
  have hjj : (j : Int) ≤ (j : Int) := Int.le_refl _
  have hwr : IntKind.i64.wrap ((j : Int) + 1) = (j : Int) + 1 := IntWalk.i64_in _ (by omega)
  have htn : ((j : Int) + 1).toNat = j + 1 := by omega
  have hs1 : (0 : Int) ≤ (j : Int) + 1 := by omega
  have hs2 : (j : Int) + 1 ≤ (keys.length : Int) := by omega
  have hs3 : (j : Int) + 1 ≤ kc2 := by omega
  clear hW2 hbW
  have hgK : gk < W2.heap.size := by
    obtain ⟨_, _, hh⟩ := own_heap HK3.out (k := gk) rfl
    exact (Array.getElem?_eq_some_iff.1 hh).1
  have hw0 := HM.out.bel.size
  have hw2 := HBW.out.size
  have hi1 : ((keys.take j).flatMap encH).length = j * 32 := by rw [flatH_len, List.length_take]; congr 1; omega
  go_cut [] (fun wx => ∃ vA vc, PlAt wx P s.slots s.room (.slice vA (j + (keys.length - (j + 1))) vc) (.slice (some ⟨gd, 0, none⟩) keys.length dc2) lv2 s.cnt s.tag ∧ wx.ownsRow w0.heap.size 33 32 (.slice vA (j + (keys.length - (j + 1))) vc) (j + (keys.length - (j + 1))) ((keys.take j).flatMap encH ++ (keys.drop (j + 1)).flatMap encH) ∧ (∀ b, (Value.slice vA (j + (keys.length - (j + 1))) vc).ownBlock = some b → W2.heap.size ≤ b) ∧ Chg (fun j => j = P) W2 wx)
  case first =>
    refine wp_region_any (by kernel_rfl) (HeldBut.any (S := HoldC P 2 (.slice (some ⟨gk, 0, none⟩) keys.length kc2)) (x := 19) _ _ _ _ ?_)
    change HeldBut _ _ _ _ _ _ _ _ _ (World.drew _)
    have hHeld : HoldC P 2 (.slice (some ⟨gk, 0, none⟩) keys.length kc2) W2.drew := (pl_c (pl_bel HP3.out (show Below W2.heap.size W2 _ by (repeat (first | exact Below.refl _ _ | refine bg_al ?_ | refine bg_gr ?_ | refine bg_drn ?_ | refine bg_dr ?_ | assumption))))).2.2.1
    refine HeldBut.take 0 ⟨some 147, .move (.tmp 0), _, _, _, none⟩ (some 147) ?va147 rfl rfl (by kernel_rfl) (by kernel_rfl) (by kernel_rfl) (by kernel_rfl) (fun _ _ _ h => h) (by rfl) ?ya147 hHeld ?za147
    case ya147 => (intro w hSw; (try unfold HoldC at hSw); go_simp; (try with_reducible rfl))
    case za147 =>
    simp only [Act.put, List.setIfInBounds_toArray, List.set_cons_zero, List.set_cons_succ]
    refine HeldBut.take 2 ⟨some 149, .move (.tmp 0), _, _, _, none⟩ (some 149) ?va149 rfl rfl (by kernel_rfl) (by kernel_rfl) (by kernel_rfl) (by kernel_rfl) (fun _ _ _ h => h) (by rfl) ?ya149 hHeld ?za149
    case ya149 => (intro w hSw; (try unfold HoldC at hSw); go_simp; (try with_reducible rfl))
    case za149 =>
    simp only [Act.put, List.setIfInBounds_toArray, List.set_cons_zero, List.set_cons_succ]
    refine HeldBut.take 3 ⟨some 150, .nilCheck (.tmp 149), _, _, _, none⟩ (some 150) ?va150 rfl rfl (by kernel_rfl) (by kernel_rfl) (by kernel_rfl) (by kernel_rfl) (fun _ _ _ h => h) (by rfl) ?ya150 hHeld ?za150
    case ya150 => (intro w hSw; (try unfold HoldC at hSw); go_simp; (try with_reducible rfl))
    case za150 =>
    simp only [Act.put, List.setIfInBounds_toArray, List.set_cons_zero, List.set_cons_succ]
    refine HeldBut.take 4 ⟨some 151, .fieldAddr 62 (.tmp 150) 2, _, _, _, none⟩ (some 151) ?va151 rfl rfl (by kernel_rfl) (by kernel_rfl) (by kernel_rfl) (by kernel_rfl) (fun _ _ _ h => h) (by rfl) ?ya151 hHeld ?za151
    case ya151 => (intro w hSw; (try unfold HoldC at hSw); go_simp; (try with_reducible rfl))
    case za151 =>
    simp only [Act.put, List.setIfInBounds_toArray, List.set_cons_zero, List.set_cons_succ]
    refine HeldBut.take 5 ⟨some 152, .load 34 (.tmp 151), _, _, _, none⟩ (some 152) ?va152 rfl rfl (by kernel_rfl) (by kernel_rfl) (by kernel_rfl) (by kernel_rfl) (fun _ _ _ h => h) (by rfl) ?ya152 hHeld ?za152
    case ya152 => (intro w hSw; (try unfold HoldC at hSw); go_simp; (try with_reducible rfl))
    case za152 =>
    simp only [Act.put, List.setIfInBounds_toArray, List.set_cons_zero, List.set_cons_succ]
    refine HeldBut.take 6 ⟨some 153, .move (.tmp 7), _, _, _, none⟩ (some 153) ?va153 rfl rfl (by kernel_rfl) (by kernel_rfl) (by kernel_rfl) (by kernel_rfl) (fun _ _ _ h => h) (by rfl) ?ya153 hHeld ?za153
    case ya153 => (intro w hSw; (try unfold HoldC at hSw); go_simp; (try with_reducible rfl))
    case za153 =>
    simp only [Act.put, List.setIfInBounds_toArray, List.set_cons_zero, List.set_cons_succ]
    refine HeldBut.take 7 ⟨some 154, .slice 34 (.tmp 152) none (some (.tmp 153)) none, _, _, _, none⟩ (some 154) ?va154 rfl rfl (by kernel_rfl) (by kernel_rfl) (by kernel_rfl) (by kernel_rfl) (fun _ _ _ h => h) (by rfl) ?ya154 hHeld ?za154
    case ya154 => (intro w hSw; (try unfold HoldC at hSw); go_simp; (try with_reducible rfl))
    case za154 =>
    simp only [Act.put, List.setIfInBounds_toArray, List.set_cons_zero, List.set_cons_succ]
    refine HeldBut.take 9 ⟨some 156, .move (.tmp 0), _, _, _, none⟩ (some 156) ?va156 rfl rfl (by kernel_rfl) (by kernel_rfl) (by kernel_rfl) (by kernel_rfl) (fun _ _ _ h => h) (by rfl) ?ya156 hHeld ?za156
    case ya156 => (intro w hSw; (try unfold HoldC at hSw); go_simp; (try with_reducible rfl))
    case za156 =>
    simp only [Act.put, List.setIfInBounds_toArray, List.set_cons_zero, List.set_cons_succ]
    refine HeldBut.take 10 ⟨some 157, .nilCheck (.tmp 156), _, _, _, none⟩ (some 157) ?va157 rfl rfl (by kernel_rfl) (by kernel_rfl) (by kernel_rfl) (by kernel_rfl) (fun _ _ _ h => h) (by rfl) ?ya157 hHeld ?za157
    case ya157 => (intro w hSw; (try unfold HoldC at hSw); go_simp; (try with_reducible rfl))
    case za157 =>
    simp only [Act.put, List.setIfInBounds_toArray, List.set_cons_zero, List.set_cons_succ]
    refine HeldBut.take 11 ⟨some 158, .fieldAddr 62 (.tmp 157) 2, _, _, _, none⟩ (some 158) ?va158 rfl rfl (by kernel_rfl) (by kernel_rfl) (by kernel_rfl) (by kernel_rfl) (fun _ _ _ h => h) (by rfl) ?ya158 hHeld ?za158
    case ya158 => (intro w hSw; (try unfold HoldC at hSw); go_simp; (try with_reducible rfl))
    case za158 =>
    simp only [Act.put, List.setIfInBounds_toArray, List.set_cons_zero, List.set_cons_succ]
    refine HeldBut.take 12 ⟨some 159, .load 34 (.tmp 158), _, _, _, none⟩ (some 159) ?va159 rfl rfl (by kernel_rfl) (by kernel_rfl) (by kernel_rfl) (by kernel_rfl) (fun _ _ _ h => h) (by rfl) ?ya159 hHeld ?za159
    case ya159 => (intro w hSw; (try unfold HoldC at hSw); go_simp; (try with_reducible rfl))
    case za159 =>
    simp only [Act.put, List.setIfInBounds_toArray, List.set_cons_zero, List.set_cons_succ]
    refine HeldBut.take 13 ⟨some 160, .move (.tmp 7), _, _, _, none⟩ (some 160) ?va160 rfl rfl (by kernel_rfl) (by kernel_rfl) (by kernel_rfl) (by kernel_rfl) (fun _ _ _ h => h) (by rfl) ?ya160 hHeld ?za160
    case ya160 => (intro w hSw; (try unfold HoldC at hSw); go_simp; (try with_reducible rfl))
    case za160 =>
    simp only [Act.put, List.setIfInBounds_toArray, List.set_cons_zero, List.set_cons_succ]
    refine HeldBut.take 14 ⟨some 161, .binOp .add 3 (.tmp 160) (.const (.int .i64 1)) 3, _, _, _, none⟩ (some 161) ?va161 rfl rfl (by kernel_rfl) (by kernel_rfl) (by kernel_rfl) (by kernel_rfl) (fun _ _ _ h => h) (by rfl) ?ya161 hHeld ?za161
    case ya161 => (intro w hSw; (try unfold HoldC at hSw); go_simp; (try with_reducible rfl))
    case za161 =>
    simp only [Act.put, List.setIfInBounds_toArray, List.set_cons_zero, List.set_cons_succ]
    refine HeldBut.take 15 ⟨some 162, .slice 34 (.tmp 159) (some (.tmp 161)) none none, _, _, _, none⟩ (some 162) ?va162 rfl rfl (by kernel_rfl) (by kernel_rfl) (by kernel_rfl) (by kernel_rfl) (fun _ _ _ h => h) (by rfl) ?ya162 hHeld ?za162
    case ya162 => (intro w hSw; (try unfold HoldC at hSw); go_simp; (try with_reducible rfl))
    case za162 =>
    simp only [Act.put, List.setIfInBounds_toArray, List.set_cons_zero, List.set_cons_succ]
    refine HeldBut.one 1 ⟨some 148, .buildSlice 34 0 #[], _, _, _, none⟩ (by kernel_rfl) rfl (fun K hK => ?_)
    go_simp
    refine hK _ _ (fun _ => ?sa148) ?_
    case sa148 => exact (pl_c (pl_bel HP3.out (show Below W2.heap.size W2 _ by (repeat (first | exact Below.refl _ _ | refine bg_al ?_ | refine bg_gr ?_ | refine bg_drn ?_ | refine bg_dr ?_ | assumption))))).2.2.1
    clear hK K
    (try simp only [Act.put, List.setIfInBounds_toArray, List.set_cons_zero, List.set_cons_succ])
    refine HeldBut.one 8 ⟨some 155, .call { callee := .builtin .append, args := #[.tmp 148, .tmp 154], argTypes := #[34, 34] }, _, _, _, none⟩ (by kernel_rfl) rfl (fun K hK => ?_)
    refine step_ap hashesT (by rfl) (by rfl) (by rfl) (own_drew0 (own_lit W2 #[] 33 (size := 32) (base := w0.heap.size) (n := 0) (by omega) (by simp [maxLen]) (by rfl))) (by rfl) ((src_take HK3.out j (by omega) kc2).below (show Below W2.heap.size W2 _ by (repeat (first | exact Below.refl _ _ | refine bg_al ?_ | refine bg_gr ?_ | refine bg_drn ?_ | refine bg_dr ?_ | assumption)))) (flat_one _) (by simp only [maxLen]; omega) (by omega) (by simp; omega) ?_; intro v9 w9 hap; have hb9 : Below W2.heap.size W2 w9 := (ap_below (a := W2) (B := W2.heap.size) (by (repeat (first | exact Below.refl _ _ | refine bg_al ?_ | refine bg_gr ?_ | refine bg_drn ?_ | refine bg_dr ?_ | assumption))) hap (by simp) (fun k hk => by simp [Value.ownBlock] at hk; omega)); have HB9 := Lib.hid hb9; have hP9 := pl_bel HP3.out hb9; obtain ⟨-, -, s2, s3, -, -, slt⟩ := pl_c hP9; have sf2 := pl_fr hP9 2; have HAP := Lib.hid hap; clear hb9 hP9 hap
    refine hK _ _ (fun _ => ?sa155) ?_
    case sa155 => exact s2
    clear hK K
    (try simp only [Act.put, List.setIfInBounds_toArray, List.set_cons_zero, List.set_cons_succ])
    refine HeldBut.one 16 ⟨some 163, .call { callee := .builtin .append, args := #[.tmp 155, .tmp 162], argTypes := #[34, 34] }, _, _, _, none⟩ (by kernel_rfl) rfl (fun K hK => ?_)
    refine step_ap hashesT (by rfl) (by rfl) (by rfl) HAP.out.1 (by rfl) ((src_drop HK3.out j (by omega) (cutK_is (by omega) (by omega)) _).below HB9.out) (flat_one _) (by simp only [maxLen]; omega) (by omega) (by have := HB9.out.size; omega) ?_; intro v10 w10 hap2; have hb10 : Below W2.heap.size W2 w10 := (ap_below HB9.out hap2 HB9.out.size (ap_new_ge HAP.out (by simp) (fun k hk => by simp [Value.ownBlock] at hk; omega))); have HB10 := Lib.hid hb10; have hP10 := pl_bel HP3.out hb10; obtain ⟨-, -, u2, u3, -, -, ult⟩ := pl_c hP10; have uf2 := pl_fr hP10 2; have HAP2 := Lib.hid hap2; obtain ⟨vA10, vc10, rfl⟩ := row_slice hap2.1; clear hb10 hP10 hap2
    refine hK _ _ (fun _ => ?sa163) ?_
    case sa163 => exact u2
    clear hK K
    (try simp only [Act.put, List.setIfInBounds_toArray, List.set_cons_zero, List.set_cons_succ])
    refine HeldBut.one 17 ⟨some 164, .nilCheck (.tmp 147), _, _, _, none⟩ (by kernel_rfl) rfl (fun K hK => ?_)
    go_simp
    refine hK _ _ (fun _ => ?sa164) ?_
    case sa164 => exact u2
    clear hK K
    (try simp only [Act.put, List.setIfInBounds_toArray, List.set_cons_zero, List.set_cons_succ])
    refine HeldBut.one 18 ⟨some 165, .fieldAddr 62 (.tmp 164) 2, _, _, _, none⟩ (by kernel_rfl) rfl (fun K hK => ?_)
    go_simp
    refine hK _ _ (fun _ => ?sa165) ?_
    case sa165 => exact u2
    clear hK K
    (try simp only [Act.put, List.setIfInBounds_toArray, List.set_cons_zero, List.set_cons_succ])
    refine HeldBut.one 19 ⟨none, .store 34 (.tmp 165) (.tmp 163), _, _, _, none⟩ (by kernel_rfl) rfl (fun K hK => ?_)
    go_simp
    refine hK _ _ (fun h => absurd rfl h) ?_
    clear hK K
    (try simp only [Act.put, List.setIfInBounds_toArray, List.set_cons_zero, List.set_cons_succ])
    refine HeldBut.done (by kernel_rfl) ?_ _
    all_goals go_wp2_with fail
    all_goals
      go_meet
      have hap2 := HAP2.out
      simp only [Nat.zero_add] at hap2
      have hrow := hap2.1
      exact ⟨vA10, vc10, pl_bel (pl_set2 (pl_bel HP3.out HB10.out) _) (by (repeat (first | exact Below.refl _ _ | refine bg_al ?_ | refine bg_gr ?_ | refine bg_drn ?_ | refine bg_dr ?_ | assumption))), own_below (own_plc hrow (by decide) (pl_bel HP3.out HB10.out) (chg_set (S := fun j => j = P) (Chg.refl _ _) rfl _)) (by (repeat (first | exact Below.refl _ _ | refine bg_al ?_ | refine bg_gr ?_ | refine bg_drn ?_ | refine bg_dr ?_ | assumption))), ap_new_ge hap2 (by have := HB9.out.size; simp; omega) (ap_new_ge HAP.out (by simp) (fun k hk => by simp [Value.ownBlock] at hk; omega)), ((Below.chg _ HB10.out).trans (chg_set (S := fun j => j = P) (Chg.refl _ _) rfl _)).trans (Below.chg _ (by (repeat (first | exact Below.refl _ _ | refine bg_al ?_ | refine bg_gr ?_ | refine bg_drn ?_ | refine bg_dr ?_ | assumption))))⟩
  case rest =>
  obtain ⟨vA4, vc4, hP4, hK4, hK4b, hC4⟩ := hcut
  have HP4 := Lib.hid hP4
  have HK4 := Lib.hid hK4
  have HK4b := Lib.hid hK4b
  have HC4 := Lib.hid hC4
  have HD4 := Lib.hid (own_plc HD3.out (by decide) HP3.out hC4)
  obtain ⟨-, -, x2, x3, -, -, xlt⟩ := pl_c hP4
  have xf3 := pl_fr hP4 3
  have hgD : gd < wc.heap.size := by
    obtain ⟨_, _, hh⟩ := own_heap HD4.out (k := gd) rfl
    exact (Array.getElem?_eq_some_iff.1 hh).1
  have hw4 := hC4.size
  have hvl : vals2.length = keys.length := by simpa using HD2.out.1
  have hso := src_one HV2.out HM.out.kd.len hvl
  have HSO := Lib.hid hso
  clear hP4 hK4 hK4b hC4 hso
  go_wp2_with fail
  refine wp_region_any (by kernel_rfl) (HeldBut.any (S := HoldC P 3 (.slice (some ⟨gd, 0, none⟩) keys.length dc2)) (x := 19) _ _ _ _ ?_)
  change HeldBut _ _ _ _ _ _ _ _ _ (World.drew _)
  have hHeld : HoldC P 3 (.slice (some ⟨gd, 0, none⟩) keys.length dc2) wc.drew := (pl_c (pl_bel HP4.out (show Below wc.heap.size wc _ by (repeat (first | exact Below.refl _ _ | refine bg_al ?_ | refine bg_gr ?_ | refine bg_drn ?_ | refine bg_dr ?_ | assumption))))).2.2.2.1
  refine HeldBut.take 0 ⟨some 166, .move (.tmp 0), _, _, _, none⟩ (some 166) ?va166 rfl rfl (by kernel_rfl) (by kernel_rfl) (by kernel_rfl) (by kernel_rfl) (fun _ _ _ h => h) (by rfl) ?ya166 hHeld ?za166
  case ya166 => (intro w hSw; (try unfold HoldC at hSw); go_simp; (try with_reducible rfl))
  case za166 =>
  simp only [Act.put, List.setIfInBounds_toArray, List.set_cons_zero, List.set_cons_succ]
  refine HeldBut.take 2 ⟨some 168, .move (.tmp 0), _, _, _, none⟩ (some 168) ?va168 rfl rfl (by kernel_rfl) (by kernel_rfl) (by kernel_rfl) (by kernel_rfl) (fun _ _ _ h => h) (by rfl) ?ya168 hHeld ?za168
  case ya168 => (intro w hSw; (try unfold HoldC at hSw); go_simp; (try with_reducible rfl))
  case za168 =>
  simp only [Act.put, List.setIfInBounds_toArray, List.set_cons_zero, List.set_cons_succ]
  refine HeldBut.take 3 ⟨some 169, .nilCheck (.tmp 168), _, _, _, none⟩ (some 169) ?va169 rfl rfl (by kernel_rfl) (by kernel_rfl) (by kernel_rfl) (by kernel_rfl) (fun _ _ _ h => h) (by rfl) ?ya169 hHeld ?za169
  case ya169 => (intro w hSw; (try unfold HoldC at hSw); go_simp; (try with_reducible rfl))
  case za169 =>
  simp only [Act.put, List.setIfInBounds_toArray, List.set_cons_zero, List.set_cons_succ]
  refine HeldBut.take 4 ⟨some 170, .fieldAddr 62 (.tmp 169) 3, _, _, _, none⟩ (some 170) ?va170 rfl rfl (by kernel_rfl) (by kernel_rfl) (by kernel_rfl) (by kernel_rfl) (fun _ _ _ h => h) (by rfl) ?ya170 hHeld ?za170
  case ya170 => (intro w hSw; (try unfold HoldC at hSw); go_simp; (try with_reducible rfl))
  case za170 =>
  simp only [Act.put, List.setIfInBounds_toArray, List.set_cons_zero, List.set_cons_succ]
  refine HeldBut.take 5 ⟨some 171, .load 60 (.tmp 170), _, _, _, none⟩ (some 171) ?va171 rfl rfl (by kernel_rfl) (by kernel_rfl) (by kernel_rfl) (by kernel_rfl) (fun _ _ _ h => h) (by rfl) ?ya171 hHeld ?za171
  case ya171 => (intro w hSw; (try unfold HoldC at hSw); go_simp; (try with_reducible rfl))
  case za171 =>
  simp only [Act.put, List.setIfInBounds_toArray, List.set_cons_zero, List.set_cons_succ]
  refine HeldBut.take 6 ⟨some 172, .move (.tmp 7), _, _, _, none⟩ (some 172) ?va172 rfl rfl (by kernel_rfl) (by kernel_rfl) (by kernel_rfl) (by kernel_rfl) (fun _ _ _ h => h) (by rfl) ?ya172 hHeld ?za172
  case ya172 => (intro w hSw; (try unfold HoldC at hSw); go_simp; (try with_reducible rfl))
  case za172 =>
  simp only [Act.put, List.setIfInBounds_toArray, List.set_cons_zero, List.set_cons_succ]
  refine HeldBut.take 7 ⟨some 173, .slice 60 (.tmp 171) none (some (.tmp 172)) none, _, _, _, none⟩ (some 173) ?va173 rfl rfl (by kernel_rfl) (by kernel_rfl) (by kernel_rfl) (by kernel_rfl) (fun _ _ _ h => h) (by rfl) ?ya173 hHeld ?za173
  case ya173 => (intro w hSw; (try unfold HoldC at hSw); go_simp; (try with_reducible rfl))
  case za173 =>
  simp only [Act.put, List.setIfInBounds_toArray, List.set_cons_zero, List.set_cons_succ]
  refine HeldBut.take 9 ⟨some 175, .move (.tmp 0), _, _, _, none⟩ (some 175) ?va175 rfl rfl (by kernel_rfl) (by kernel_rfl) (by kernel_rfl) (by kernel_rfl) (fun _ _ _ h => h) (by rfl) ?ya175 hHeld ?za175
  case ya175 => (intro w hSw; (try unfold HoldC at hSw); go_simp; (try with_reducible rfl))
  case za175 =>
  simp only [Act.put, List.setIfInBounds_toArray, List.set_cons_zero, List.set_cons_succ]
  refine HeldBut.take 10 ⟨some 176, .nilCheck (.tmp 175), _, _, _, none⟩ (some 176) ?va176 rfl rfl (by kernel_rfl) (by kernel_rfl) (by kernel_rfl) (by kernel_rfl) (fun _ _ _ h => h) (by rfl) ?ya176 hHeld ?za176
  case ya176 => (intro w hSw; (try unfold HoldC at hSw); go_simp; (try with_reducible rfl))
  case za176 =>
  simp only [Act.put, List.setIfInBounds_toArray, List.set_cons_zero, List.set_cons_succ]
  refine HeldBut.take 11 ⟨some 177, .fieldAddr 62 (.tmp 176) 3, _, _, _, none⟩ (some 177) ?va177 rfl rfl (by kernel_rfl) (by kernel_rfl) (by kernel_rfl) (by kernel_rfl) (fun _ _ _ h => h) (by rfl) ?ya177 hHeld ?za177
  case ya177 => (intro w hSw; (try unfold HoldC at hSw); go_simp; (try with_reducible rfl))
  case za177 =>
  simp only [Act.put, List.setIfInBounds_toArray, List.set_cons_zero, List.set_cons_succ]
  refine HeldBut.take 12 ⟨some 178, .load 60 (.tmp 177), _, _, _, none⟩ (some 178) ?va178 rfl rfl (by kernel_rfl) (by kernel_rfl) (by kernel_rfl) (by kernel_rfl) (fun _ _ _ h => h) (by rfl) ?ya178 hHeld ?za178
  case ya178 => (intro w hSw; (try unfold HoldC at hSw); go_simp; (try with_reducible rfl))
  case za178 =>
  simp only [Act.put, List.setIfInBounds_toArray, List.set_cons_zero, List.set_cons_succ]
  refine HeldBut.take 13 ⟨some 179, .move (.tmp 7), _, _, _, none⟩ (some 179) ?va179 rfl rfl (by kernel_rfl) (by kernel_rfl) (by kernel_rfl) (by kernel_rfl) (fun _ _ _ h => h) (by rfl) ?ya179 hHeld ?za179
  case ya179 => (intro w hSw; (try unfold HoldC at hSw); go_simp; (try with_reducible rfl))
  case za179 =>
  simp only [Act.put, List.setIfInBounds_toArray, List.set_cons_zero, List.set_cons_succ]
  refine HeldBut.take 14 ⟨some 180, .binOp .add 3 (.tmp 179) (.const (.int .i64 1)) 3, _, _, _, none⟩ (some 180) ?va180 rfl rfl (by kernel_rfl) (by kernel_rfl) (by kernel_rfl) (by kernel_rfl) (fun _ _ _ h => h) (by rfl) ?ya180 hHeld ?za180
  case ya180 => (intro w hSw; (try unfold HoldC at hSw); go_simp; (try with_reducible rfl))
  case za180 =>
  simp only [Act.put, List.setIfInBounds_toArray, List.set_cons_zero, List.set_cons_succ]
  refine HeldBut.take 15 ⟨some 181, .slice 60 (.tmp 178) (some (.tmp 180)) none none, _, _, _, none⟩ (some 181) ?va181 rfl rfl (by kernel_rfl) (by kernel_rfl) (by kernel_rfl) (by kernel_rfl) (fun _ _ _ h => h) (by rfl) ?ya181 hHeld ?za181
  case ya181 => (intro w hSw; (try unfold HoldC at hSw); go_simp; (try with_reducible rfl))
  case za181 =>
  simp only [Act.put, List.setIfInBounds_toArray, List.set_cons_zero, List.set_cons_succ]
  refine HeldBut.one 1 ⟨some 167, .buildSlice 60 0 #[], _, _, _, none⟩ (by kernel_rfl) rfl (fun K hK => ?_)
  go_simp
  refine hK _ _ (fun _ => ?sa167) ?_
  case sa167 => exact (pl_c (pl_bel HP4.out (show Below wc.heap.size wc _ by (repeat (first | exact Below.refl _ _ | refine bg_al ?_ | refine bg_gr ?_ | refine bg_drn ?_ | refine bg_dr ?_ | assumption))))).2.2.2.1
  clear hK K
  (try simp only [Act.put, List.setIfInBounds_toArray, List.set_cons_zero, List.set_cons_succ])
  refine HeldBut.one 8 ⟨some 174, .call { callee := .builtin .append, args := #[.tmp 167, .tmp 173], argTypes := #[60, 60] }, _, _, _, none⟩ (by kernel_rfl) rfl (fun K hK => ?_)
  refine step_ap listsT (by rfl) (by rfl) (by rfl) (own_drew0 (own_lit wc #[] 29 (size := 1) (base := w0.heap.size) (n := 0) (by omega) (by simp [maxLen]) (by rfl))) (by rfl) ((src_take1 HD4.out j (by omega) dc2).below (show Below wc.heap.size wc _ by (repeat (first | exact Below.refl _ _ | refine bg_al ?_ | refine bg_gr ?_ | refine bg_drn ?_ | refine bg_dr ?_ | assumption)))) (fun u hu => HSO.out u (List.mem_of_mem_take hu)) (by simp only [maxLen]; omega) (by omega) (by simp; omega) ?_; intro v9 w9 hap; have hb9 : Below wc.heap.size wc w9 := (ap_below (a := wc) (B := wc.heap.size) (by (repeat (first | exact Below.refl _ _ | refine bg_al ?_ | refine bg_gr ?_ | refine bg_drn ?_ | refine bg_dr ?_ | assumption))) hap (by simp) (fun k hk => by simp [Value.ownBlock] at hk; omega)); have HB9 := Lib.hid hb9; have hP9 := pl_bel HP4.out hb9; obtain ⟨-, -, s2, s3, -, -, slt⟩ := pl_c hP9; have sf3 := pl_fr hP9 3; have HAP := Lib.hid hap; clear hb9 hP9 hap
  refine hK _ _ (fun _ => ?sa174) ?_
  case sa174 => exact s3
  clear hK K
  (try simp only [Act.put, List.setIfInBounds_toArray, List.set_cons_zero, List.set_cons_succ])
  refine HeldBut.one 16 ⟨some 182, .call { callee := .builtin .append, args := #[.tmp 174, .tmp 181], argTypes := #[60, 60] }, _, _, _, none⟩ (by kernel_rfl) rfl (fun K hK => ?_)
  refine step_ap listsT (by rfl) (by rfl) (by rfl) HAP.out.1 (by rfl) ((src_drop1 HD4.out j (by omega) (cutD_is (by omega) (by omega)) _).below HB9.out) (fun u hu => HSO.out u (List.mem_of_mem_drop hu)) (by simp only [maxLen]; omega) (by omega) (by have := HB9.out.size; omega) ?_; intro v10 w10 hap2; have hb10 : Below wc.heap.size wc w10 := (ap_below HB9.out hap2 HB9.out.size (ap_new_ge HAP.out (by simp) (fun k hk => by simp [Value.ownBlock] at hk; omega))); have HB10 := Lib.hid hb10; have hP10 := pl_bel HP4.out hb10; obtain ⟨-, -, u2, u3, -, -, ult⟩ := pl_c hP10; have uf3 := pl_fr hP10 3; have HAP2 := Lib.hid hap2; obtain ⟨vA10, vc10, rfl⟩ := row_slice hap2.1; clear hb10 hP10 hap2
  refine hK _ _ (fun _ => ?sa182) ?_
  case sa182 => exact u3
  clear hK K
  (try simp only [Act.put, List.setIfInBounds_toArray, List.set_cons_zero, List.set_cons_succ])
  refine HeldBut.one 17 ⟨some 183, .nilCheck (.tmp 166), _, _, _, none⟩ (by kernel_rfl) rfl (fun K hK => ?_)
  go_simp
  refine hK _ _ (fun _ => ?sa183) ?_
  case sa183 => exact u3
  clear hK K
  (try simp only [Act.put, List.setIfInBounds_toArray, List.set_cons_zero, List.set_cons_succ])
  refine HeldBut.one 18 ⟨some 184, .fieldAddr 62 (.tmp 183) 3, _, _, _, none⟩ (by kernel_rfl) rfl (fun K hK => ?_)
  go_simp
  refine hK _ _ (fun _ => ?sa184) ?_
  case sa184 => exact u3
  clear hK K
  (try simp only [Act.put, List.setIfInBounds_toArray, List.set_cons_zero, List.set_cons_succ])
  refine HeldBut.one 19 ⟨none, .store 60 (.tmp 184) (.tmp 182), _, _, _, none⟩ (by kernel_rfl) rfl (fun K hK => ?_)
  go_simp
  refine hK _ _ (fun h => absurd rfl h) ?_
  clear hK K
  (try simp only [Act.put, List.setIfInBounds_toArray, List.set_cons_zero, List.set_cons_succ])
  refine HeldBut.done (by kernel_rfl) ?_ _
  all_goals go_wp2_with fail
  all_goals  go_ret
  all_goals
    have hap2 := HAP2.out
    simp only [Nat.zero_add] at hap2
    have hrow := hap2.1
    exact ⟨rfl, _, _, _, _, del_fin (m := 0) (q := o.key) HM.out HP2.out HPF.out HK2.out HD2.out HV2.out HSB2.out j HJ.out HKJ.out HBW.out HC4.out HP4.out HK4.out HK4b.out HB10.out hrow (ap_new_ge hap2 (by have := HB9.out.size; simp; omega) (ap_new_ge HAP.out (by simp) (fun k hk => by simp [Value.ownBlock] at hk; omega))) ((chg_set (S := fun j => j = P) (Chg.refl _ _) rfl _).trans (Below.chg _ (by (repeat (first | exact Below.refl _ _ | refine bg_al ?_ | refine bg_gr ?_ | refine bg_drn ?_ | refine bg_dr ?_ | assumption))))) (pl_bel (pl_set3 (pl_bel HP4.out HB10.out) _) (by (repeat (first | exact Below.refl _ _ | refine bg_al ?_ | refine bg_gr ?_ | refine bg_drn ?_ | refine bg_dr ?_ | assumption)))) rfl⟩
end Go.Proofs.Ytcbglojjbgenlaa
