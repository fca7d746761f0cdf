/- does of the plain thing: the cases that write its log or its pair. does of the plain thing: the cases that write its log or its pair. does of the plain thing: the cases that write its log or its pair. does of the plain thing: the cases that write its log or its pair. -/
import Derived.Test.YtcbglojjbgenlaaHnI
namespace Go.Proofs.Ytcbglojjbgenlaa
open Go.RowKit Go.MapL Go.ChangeMaps Go.MapKept
set_option linter.unusedSimpArgs false
set_option linter.unusedVariables false
attribute [local go_sem] size_gr cell_gr frozen_gr setCell_gr gr_drew gr_drewN lt_k lt_kc le_k le_kc sub_kc nil29 nil28 nil49 mkmap size_setBlock cell_setB opC_len opC_0 opC_33 opC_34 opC_35 opC_0g opC_33g opC_34g opC_35g
attribute [local go_sem ↓] Go.wp_at_zero Go.wp_at_succ

set_option maxHeartbeats 1000000 in
set_option maxRecDepth 8000 in
theorem ltrim {w0 w : World} {D : Nat} {F : Nat → Prop} {P : Nat} {s : Hn} {keys : List H32} {datas : List Bs} {k : Nat} (h : LInv w0 w D F P s keys datas k) (hk : k < 1000000) (o : Opv) (ho : SB w0 o.da o.data) (hol : o.data.length ≤ 1048576) (hkind : o.kind = 7) (m : Nat) (hm : o.n = (m : Int)) (hn : m ≤ s.log.length) :
    Calls Try.prog 26 #[.pointer (some ⟨P, 0, none⟩), .pointer (some ⟨D, 0, none⟩), .agg (opC o).toArray] w fun e w' => e = .returned (.bool true) ∧ LDone w0 w' D P (k + 1) := by
  have HH := Lib.hid (head_mk o h)
  obtain ⟨kA, kc, dA, dc, lA, lc, hc0, hc1, hc2, hc3, hc4, hc5, hPlt, hpsb⟩ := h.cells
  have HK := Lib.hid hk
  have HO := Lib.hid ho
  have HOL := Lib.hid hol
  have hr1 : s.room ≤ 1048576 := by have := h.bd.room; omega
  have hlg : (s.log.length : Int) ≤ 1048576 := by have := h.bd.room; have := h.bd.log; omega
  have hol2 : (o.data.length : Int) ≤ 1048576 := by omega
  have hk1 : ((o.kind == 1) : Bool) = false := by rw [hkind]; rfl
  have hk2 : ((o.kind == 2) : Bool) = false := by rw [hkind]; rfl
  have hk3 : ((o.kind == 3) : Bool) = false := by rw [hkind]; rfl
  have hk4 : ((o.kind == 4) : Bool) = false := by rw [hkind]; rfl
  have hk5 : ((o.kind == 5) : Bool) = false := by rw [hkind]; rfl
  have hk6 : ((o.kind == 6) : Bool) = false := by rw [hkind]; rfl
  have hk7 : ((o.kind == 7) : Bool) = true := by rw [hkind]; rfl
  have HN := Lib.hid hn
  have hm1 : ¬ (m : Int) < 0 := by omega
  have hm2 : ¬ (s.log.length : Int) < (m : Int) := by omega
  have hm3 : (0 : Int) ≤ (m : Int) := by omega
  have hm4 : (m : Int) ≤ (s.log.length : Int) := by omega
  have HBD := Lib.hid h.bd
  clear h hpsb hk ho hol
  go_enter Try.func26, Try.ntmps26
  go_wp2_with (first
    | (refine wpList_load_mid rfl 33 _ rfl _ _ (by rfl) (o.key.1.map bv) _ (op_c (HH.out.op _ (by (repeat (first | exact Below.refl _ _ | refine bg_al ?_ | refine bg_gr ?_ | refine bg_drn ?_ | refine bg_dr ?_ | assumption))))).2.1 Try.underlying33 rfl (hash_info o.key) ?_)
    | (go_at_call 40; refine (HH.out.at_ _ (by (repeat (first | exact Below.refl _ _ | refine bg_al ?_ | refine bg_gr ?_ | refine bg_drn ?_ | refine bg_dr ?_ | assumption)))).mono ?_; rintro en w1 ⟨rfl, hb1⟩; obtain ⟨D1, rfl⟩ := gr_of_below hb1; clear hb1)
    | (go_at_call 15; refine (trim_p (n := m) (HH.out.inv.below (by (repeat (first | exact Below.refl _ _ | refine bg_al ?_ | refine bg_gr ?_ | refine bg_drn ?_ | refine bg_dr ?_ | assumption)))).dev (by have := HK.out; omega) HN.out).mono ?_; rintro en w2 ⟨rfl, ha⟩; have HM := Lib.hid ((HH.out.inv.below (by (repeat (first | exact Below.refl _ _ | refine bg_al ?_ | refine bg_gr ?_ | refine bg_drn ?_ | refine bg_dr ?_ | assumption)))).call2 ha); have HOP := Lib.hid (op_after HH.out (by (repeat (first | exact Below.refl _ _ | refine bg_al ?_ | refine bg_gr ?_ | refine bg_drn ?_ | refine bg_dr ?_ | assumption))) ha); obtain ⟨b0, -, b33, b34, b35, -⟩ := op_c HOP.out; obtain ⟨kv2, dv2, lA2, lc2, hP2, hsb2, hlc2, hmx2⟩ := HM.out.parts; have HP2 := Lib.hid hP2; have HSB2 := Lib.hid hsb2; obtain ⟨p0, p1, p2, p3, p4, p5, plt⟩ := pl_c hP2; have pf4 := pl_fr hP2 4; clear ha hP2 hsb2))
  have hm5 : (m : Int) ≤ (lc2 : Int) := by omega
  have hm6 : (m : Int) ≤ (m : Int) := Int.le_refl _
  go_region_law (fail)
  all_goals go_wp2_with fail
  all_goals  go_ret
  all_goals
    refine ⟨rfl, _, { s with log := s.log.drop m }, keys, datas, HM.out.setP ((chg_set (S := fun j => j = P) (Chg.refl _ _) rfl _).trans (Below.chg _ (by (repeat (first | exact Below.refl _ _ | refine bg_al ?_ | refine bg_gr ?_ | refine bg_drn ?_ | refine bg_dr ?_ | assumption))))) (fun kv dv lv hl => ?_) ⟨rfl, rfl⟩ ⟨HBD.out.slots, HBD.out.room, by have := HBD.out.log; simp; omega, HBD.out.keys, HBD.out.cnt⟩⟩
    have e := HP2.out
    unfold PlAt at hl e
    rw [hl] at e
    obtain ⟨rfl, rfl, rfl⟩ := plC_inj e
    refine ⟨LogTrim lA2 s.log.length lc2 m, ?_, (db_trim HSB2.out HN.out).chg (S := fun j => j = P) ((chg_set (S := fun j => j = P) (Chg.refl _ _) rfl _).trans (Below.chg _ (by (repeat (first | exact Below.refl _ _ | refine bg_al ?_ | refine bg_gr ?_ | refine bg_drn ?_ | refine bg_dr ?_ | assumption))))) (pl_notbytes HP2.out)⟩
    first
      | (rw [logTrim_a lA2 _ lc2 m (by assumption)]; exact pl_bel (pl_set4 HP2.out _) (by (repeat (first | exact Below.refl _ _ | refine bg_al ?_ | refine bg_gr ?_ | refine bg_drn ?_ | refine bg_dr ?_ | assumption))))
      | (rw [logTrim_b lA2 _ lc2 m (by assumption)]; exact pl_bel (pl_set4 HP2.out _) (by (repeat (first | exact Below.refl _ _ | refine bg_al ?_ | refine bg_gr ?_ | refine bg_drn ?_ | refine bg_dr ?_ | assumption))))
end Go.Proofs.Ytcbglojjbgenlaa
namespace Go.Proofs.Ytcbglojjbgenlaa
open Go.RowKit Go.MapL Go.ChangeMaps Go.MapKept
set_option linter.unusedSimpArgs false
set_option linter.unusedVariables false
attribute [local go_sem] size_gr cell_gr frozen_gr setCell_gr gr_drew gr_drewN lt_k lt_kc le_k le_kc sub_kc nil29 nil28 nil49 mkmap size_setBlock cell_setB opC_len opC_0 opC_33 opC_34 opC_35 opC_0g opC_33g opC_34g opC_35g
attribute [local go_sem ↓] Go.wp_at_zero Go.wp_at_succ

set_option maxHeartbeats 1000000 in
set_option maxRecDepth 8000 in
theorem lcut {w0 w : World} {D : Nat} {F : Nat → Prop} {P : Nat} {s : Hn} {keys : List H32} {datas : List Bs} {k : Nat} (h : LInv w0 w D F P s keys datas k) (hk : k < 1000000) (o : Opv) (ho : SB w0 o.da o.data) (hol : o.data.length ≤ 1048576) (hkind : o.kind = 8) (m : Nat) (hm : o.n = (m : Int)) (hn : m ≤ s.log.length) :
    Calls Try.prog 26 #[.pointer (some ⟨P, 0, none⟩), .pointer (some ⟨D, 0, none⟩), .agg (opC o).toArray] w fun e w' => e = .returned (.bool true) ∧ LDone w0 w' D P (k + 1) := by
  have HH := Lib.hid (head_mk o h)
  obtain ⟨kA, kc, dA, dc, lA, lc, hc0, hc1, hc2, hc3, hc4, hc5, hPlt, hpsb⟩ := h.cells
  have HK := Lib.hid hk
  have HO := Lib.hid ho
  have HOL := Lib.hid hol
  have hr1 : s.room ≤ 1048576 := by have := h.bd.room; omega
  have hlg : (s.log.length : Int) ≤ 1048576 := by have := h.bd.room; have := h.bd.log; omega
  have hol2 : (o.data.length : Int) ≤ 1048576 := by omega
  have hk1 : ((o.kind == 1) : Bool) = false := by rw [hkind]; rfl
  have hk2 : ((o.kind == 2) : Bool) = false := by rw [hkind]; rfl
  have hk3 : ((o.kind == 3) : Bool) = false := by rw [hkind]; rfl
  have hk4 : ((o.kind == 4) : Bool) = false := by rw [hkind]; rfl
  have hk5 : ((o.kind == 5) : Bool) = false := by rw [hkind]; rfl
  have hk6 : ((o.kind == 6) : Bool) = false := by rw [hkind]; rfl
  have hk7 : ((o.kind == 7) : Bool) = false := by rw [hkind]; rfl
  have hk8 : ((o.kind == 8) : Bool) = true := by rw [hkind]; rfl
  have HN := Lib.hid hn
  have hm1 : ¬ (m : Int) < 0 := by omega
  have hm2 : ¬ (s.log.length : Int) < (m : Int) := by omega
  have hm3 : (0 : Int) ≤ (m : Int) := by omega
  have hm4 : (m : Int) ≤ (s.log.length : Int) := by omega
  have HBD := Lib.hid h.bd
  clear h hpsb hk ho hol
  go_enter Try.func26, Try.ntmps26
  go_wp2_with (first
    | (refine wpList_load_mid rfl 33 _ rfl _ _ (by rfl) (o.key.1.map bv) _ (op_c (HH.out.op _ (by (repeat (first | exact Below.refl _ _ | refine bg_al ?_ | refine bg_gr ?_ | refine bg_drn ?_ | refine bg_dr ?_ | assumption))))).2.1 Try.underlying33 rfl (hash_info o.key) ?_)
    | (go_at_call 40; refine (HH.out.at_ _ (by (repeat (first | exact Below.refl _ _ | refine bg_al ?_ | refine bg_gr ?_ | refine bg_drn ?_ | refine bg_dr ?_ | assumption)))).mono ?_; rintro en w1 ⟨rfl, hb1⟩; obtain ⟨D1, rfl⟩ := gr_of_below hb1; clear hb1)
    | (go_at_call 16; refine (cut_p (n := m) (HH.out.inv.below (by (repeat (first | exact Below.refl _ _ | refine bg_al ?_ | refine bg_gr ?_ | refine bg_drn ?_ | refine bg_dr ?_ | assumption)))).dev (by have := HK.out; omega) HN.out).mono ?_; rintro en w2 ⟨rfl, ha⟩; have HM := Lib.hid ((HH.out.inv.below (by (repeat (first | exact Below.refl _ _ | refine bg_al ?_ | refine bg_gr ?_ | refine bg_drn ?_ | refine bg_dr ?_ | assumption)))).call2 ha); have HOP := Lib.hid (op_after HH.out (by (repeat (first | exact Below.refl _ _ | refine bg_al ?_ | refine bg_gr ?_ | refine bg_drn ?_ | refine bg_dr ?_ | assumption))) ha); obtain ⟨b0, -, b33, b34, b35, -⟩ := op_c HOP.out; obtain ⟨kv2, dv2, lA2, lc2, hP2, hsb2, hlc2, hmx2⟩ := HM.out.parts; have HP2 := Lib.hid hP2; have HSB2 := Lib.hid hsb2; obtain ⟨p0, p1, p2, p3, p4, p5, plt⟩ := pl_c hP2; have pf4 := pl_fr hP2 4; clear ha hP2 hsb2))
  have hm5 : (m : Int) ≤ (lc2 : Int) := by omega
  have hm6 : (m : Int) ≤ (m : Int) := Int.le_refl _
  go_region_law (fail)
  all_goals go_wp2_with fail
  all_goals  go_ret
  all_goals
    refine ⟨rfl, _, { s with log := s.log.take m }, keys, datas, HM.out.setP ((chg_set (S := fun j => j = P) (Chg.refl _ _) rfl _).trans (Below.chg _ (by (repeat (first | exact Below.refl _ _ | refine bg_al ?_ | refine bg_gr ?_ | refine bg_drn ?_ | refine bg_dr ?_ | assumption))))) (fun kv dv lv hl => ?_) ⟨rfl, rfl⟩ ⟨HBD.out.slots, HBD.out.room, by have := HBD.out.log; simp; omega, HBD.out.keys, HBD.out.cnt⟩⟩
    have e := HP2.out
    unfold PlAt at hl e
    rw [hl] at e
    obtain ⟨rfl, rfl, rfl⟩ := plC_inj e
    exact ⟨LogCut2 lA2 lc2 m, pl_bel (pl_set4 HP2.out _) (by (repeat (first | exact Below.refl _ _ | refine bg_al ?_ | refine bg_gr ?_ | refine bg_drn ?_ | refine bg_dr ?_ | assumption))), (db_cut2 HSB2.out HN.out).chg (S := fun j => j = P) ((chg_set (S := fun j => j = P) (Chg.refl _ _) rfl _).trans (Below.chg _ (by (repeat (first | exact Below.refl _ _ | refine bg_al ?_ | refine bg_gr ?_ | refine bg_drn ?_ | refine bg_dr ?_ | assumption))))) (pl_notbytes HP2.out)⟩
end Go.Proofs.Ytcbglojjbgenlaa
namespace Go.Proofs.Ytcbglojjbgenlaa
open Go.RowKit Go.MapL Go.ChangeMaps Go.MapKept
set_option linter.unusedSimpArgs false
set_option linter.unusedVariables false
attribute [local go_sem] size_gr cell_gr frozen_gr setCell_gr gr_drew gr_drewN lt_k lt_kc le_k le_kc sub_kc nil29 nil28 nil49 mkmap size_setBlock cell_setB opC_len opC_0 opC_33 opC_34 opC_35 opC_0g opC_33g opC_34g opC_35g
attribute [local go_sem ↓] Go.wp_at_zero Go.wp_at_succ

set_option maxHeartbeats 1000000 in
set_option maxRecDepth 8000 in
theorem lstore {w0 w : World} {D : Nat} {F : Nat → Prop} {P : Nat} {s : Hn} {keys : List H32} {datas : List Bs} {k : Nat} (h : LInv w0 w D F P s keys datas k) (hk : k < 1000000) (o : Opv) (ho : SB w0 o.da o.data) (hol : o.data.length ≤ 1048576) (hkind : o.kind = 10) (hn : 1 ≤ o.cnt) (hn2 : o.cnt ≤ 1099511627776) (hnew : s.cnt < o.cnt) :
    Calls Try.prog 26 #[.pointer (some ⟨P, 0, none⟩), .pointer (some ⟨D, 0, none⟩), .agg (opC o).toArray] w fun e w' => e = .returned (.bool true) ∧ LDone w0 w' D P (k + 1) := by
  have HH := Lib.hid (head_mk o h)
  obtain ⟨kA, kc, dA, dc, lA, lc, hc0, hc1, hc2, hc3, hc4, hc5, hPlt, hpsb⟩ := h.cells
  have HK := Lib.hid hk
  have HO := Lib.hid ho
  have HOL := Lib.hid hol
  have hr1 : s.room ≤ 1048576 := by have := h.bd.room; omega
  have hlg : (s.log.length : Int) ≤ 1048576 := by have := h.bd.room; have := h.bd.log; omega
  have hol2 : (o.data.length : Int) ≤ 1048576 := by omega
  have hk1 : ((o.kind == 1) : Bool) = false := by rw [hkind]; rfl
  have hk2 : ((o.kind == 2) : Bool) = false := by rw [hkind]; rfl
  have hk3 : ((o.kind == 3) : Bool) = false := by rw [hkind]; rfl
  have hk4 : ((o.kind == 4) : Bool) = false := by rw [hkind]; rfl
  have hk5 : ((o.kind == 5) : Bool) = false := by rw [hkind]; rfl
  have hk6 : ((o.kind == 6) : Bool) = false := by rw [hkind]; rfl
  have hk7 : ((o.kind == 7) : Bool) = false := by rw [hkind]; rfl
  have hk8 : ((o.kind == 8) : Bool) = false := by rw [hkind]; rfl
  have hk9 : ((o.kind == 9) : Bool) = false := by rw [hkind]; rfl
  have hk10 : ((o.kind == 10) : Bool) = true := by rw [hkind]; rfl
  have HN := Lib.hid hn
  have HN2 := Lib.hid hn2
  have HNEW := Lib.hid hnew
  have HBD := Lib.hid h.bd
  have hn0 : ¬ o.cnt < 1 := by omega
  have hn3 : ¬ 1099511627776 < o.cnt := by omega
  have hn4 : ¬ o.cnt ≤ s.cnt := by omega
  have hrl := reg_len o.cnt o.tag
  clear h hpsb hk ho hol
  go_enter Try.func26, Try.ntmps26
  go_wp2_with (first
    | (refine wpList_load_mid rfl 33 _ rfl _ _ (by rfl) (o.key.1.map bv) _ (op_c (HH.out.op _ (by (repeat (first | exact Below.refl _ _ | refine bg_al ?_ | refine bg_gr ?_ | refine bg_drn ?_ | refine bg_dr ?_ | assumption))))).2.1 Try.underlying33 rfl (hash_info o.key) ?_)
    | (go_at_call 40; refine (HH.out.at_ _ (by (repeat (first | exact Below.refl _ _ | refine bg_al ?_ | refine bg_gr ?_ | refine bg_drn ?_ | refine bg_dr ?_ | assumption)))).mono ?_; rintro en w1 ⟨rfl, hb1⟩; obtain ⟨D1, rfl⟩ := gr_of_below hb1; clear hb1)
    | (refine wpList_load_mid rfl 39 _ rfl _ _ (by rfl) (regC o.cnt o.tag) _ (op_c (HH.out.op _ (by (repeat (first | exact Below.refl _ _ | refine bg_al ?_ | refine bg_gr ?_ | refine bg_drn ?_ | refine bg_dr ?_ | assumption))))).2.2.2.2.2 Try.underlying39 rfl (by rw [reg_len]; exact regInfo) ?_)
    | (go_at_call 17; refine (setreg_p (HH.out.inv.below (by (repeat (first | exact Below.refl _ _ | refine bg_al ?_ | refine bg_gr ?_ | refine bg_drn ?_ | refine bg_dr ?_ | assumption)))).dev (by have := HK.out; omega) HN.out HN2.out HNEW.out).mono ?_; rintro en w2 ⟨rfl, ha⟩; have HM := Lib.hid ((HH.out.inv.below (by (repeat (first | exact Below.refl _ _ | refine bg_al ?_ | refine bg_gr ?_ | refine bg_drn ?_ | refine bg_dr ?_ | assumption)))).call2 ha); have HOP := Lib.hid (op_after HH.out (by (repeat (first | exact Below.refl _ _ | refine bg_al ?_ | refine bg_gr ?_ | refine bg_drn ?_ | refine bg_dr ?_ | assumption))) ha); obtain ⟨b0, -, b33, b34, b35, -⟩ := op_c HOP.out; obtain ⟨kv2, dv2, lA2, lc2, hP2, hsb2, hlc2, hmx2⟩ := HM.out.parts; have HP2 := Lib.hid hP2; have HSB2 := Lib.hid hsb2; obtain ⟨p0, p1, p2, p3, p4, p5, plt⟩ := pl_c hP2; have pf4 := pl_fr hP2 4; clear ha hP2 hsb2))
  have hst : ∀ k, (storeCells ⟨P, 5, none⟩ (regC o.cnt o.tag) 0).run Try.prog (w2.drewN k) = .ok () ((w2.drewN k).setRow P (plC s.slots s.room kv2 dv2 (.slice lA2 s.log.length lc2) o.cnt o.tag).toArray) := fun k => st_regP (show PlAt (w2.drewN k) P _ _ _ _ _ _ _ from HP2.out) o.cnt o.tag
  go_quiet (fail)
  go_wp2_with (first
    | (refine wpList_load_mid rfl 39 _ rfl _ _ (by rfl) (regC o.cnt o.tag) _ (range_drewN (op_c HOP.out).2.2.2.2.2) Try.underlying39 rfl (by rw [reg_len]; exact regInfo) ?_))
  go_ret
  refine ⟨rfl, _, { s with cnt := o.cnt, tag := o.tag }, keys, datas, HM.out.setP (setRow_chg (S := fun j => j = P) (Below.chg _ (by (repeat (first | exact Below.refl _ _ | refine bg_al ?_ | refine bg_gr ?_ | refine bg_drn ?_ | refine bg_dr ?_ | assumption)))) (Or.inl rfl) _) (fun kv dv lv hl => ?_) ⟨rfl, rfl⟩ ⟨HBD.out.slots, HBD.out.room, HBD.out.log, HBD.out.keys, by have := HN.out; have := HN2.out; simp; omega⟩⟩
  have e := HP2.out
  unfold PlAt at hl e
  rw [hl] at e
  obtain ⟨rfl, rfl, rfl⟩ := plC_inj e
  exact ⟨_, setRow_heap _ _ _ _ _ _ (show (w2.drewN _).heap[P]? = _ from HP2.out), HSB2.out.chg (S := fun j => j = P) (setRow_chg (S := fun j => j = P) (Below.chg _ (by (repeat (first | exact Below.refl _ _ | refine bg_al ?_ | refine bg_gr ?_ | refine bg_drn ?_ | refine bg_dr ?_ | assumption)))) (Or.inl rfl) _) (pl_notbytes HP2.out)⟩
end Go.Proofs.Ytcbglojjbgenlaa
namespace Go.Proofs.Ytcbglojjbgenlaa
open Go.RowKit Go.MapL Go.ChangeMaps Go.MapKept
set_option linter.unusedSimpArgs false
set_option linter.unusedVariables false
attribute [local go_sem] size_gr cell_gr frozen_gr setCell_gr gr_drew gr_drewN lt_k lt_kc le_k le_kc sub_kc nil29 nil28 nil49 mkmap size_setBlock cell_setB opC_len opC_0 opC_33 opC_34 opC_35 opC_0g opC_33g opC_34g opC_35g
attribute [local go_sem ↓] Go.wp_at_zero Go.wp_at_succ

set_option maxHeartbeats 1000000 in
set_option maxRecDepth 8000 in
theorem lappend {w0 w : World} {D : Nat} {F : Nat → Prop} {P : Nat} {s : Hn} {keys : List H32} {datas : List Bs} {k : Nat} (h : LInv w0 w D F P s keys datas k) (hk : k < 1000000) (o : Opv) (ho : SB w0 o.da o.data) (hol : o.data.length ≤ 1048576) (hkind : o.kind = 6) (hroom : (s.log.length : Int) + o.data.length ≤ s.room) :
    Calls Try.prog 26 #[.pointer (some ⟨P, 0, none⟩), .pointer (some ⟨D, 0, none⟩), .agg (opC o).toArray] w fun e w' => e = .returned (.bool true) ∧ LDone w0 w' D P (k + 1) := by
  have HH := Lib.hid (head_mk o h)
  obtain ⟨kA, kc, dA, dc, lA, lc, hc0, hc1, hc2, hc3, hc4, hc5, hPlt, hpsb⟩ := h.cells
  have HK := Lib.hid hk
  have HO := Lib.hid ho
  have HOL := Lib.hid hol
  have hr1 : s.room ≤ 1048576 := by have := h.bd.room; omega
  have hlg : (s.log.length : Int) ≤ 1048576 := by have := h.bd.room; have := h.bd.log; omega
  have hol2 : (o.data.length : Int) ≤ 1048576 := by omega
  have hk1 : ((o.kind == 1) : Bool) = false := by rw [hkind]; rfl
  have hk2 : ((o.kind == 2) : Bool) = false := by rw [hkind]; rfl
  have hk3 : ((o.kind == 3) : Bool) = false := by rw [hkind]; rfl
  have hk4 : ((o.kind == 4) : Bool) = false := by rw [hkind]; rfl
  have hk5 : ((o.kind == 5) : Bool) = false := by rw [hkind]; rfl
  have hk6 : ((o.kind == 6) : Bool) = true := by rw [hkind]; rfl
  have HROOM := Lib.hid hroom
  have HBD := Lib.hid h.bd
  have HR1 := Lib.hid hr1
  clear h hpsb hk ho hol
  go_enter Try.func26, Try.ntmps26
  go_wp2_with (first
    | (refine wpList_load_mid rfl 33 _ rfl _ _ (by rfl) (o.key.1.map bv) _ (op_c (HH.out.op _ (by (repeat (first | exact Below.refl _ _ | refine bg_al ?_ | refine bg_gr ?_ | refine bg_drn ?_ | refine bg_dr ?_ | assumption))))).2.1 Try.underlying33 rfl (hash_info o.key) ?_)
    | (go_at_call 40; refine (HH.out.at_ _ (by (repeat (first | exact Below.refl _ _ | refine bg_al ?_ | refine bg_gr ?_ | refine bg_drn ?_ | refine bg_dr ?_ | assumption)))).mono ?_; rintro en w1 ⟨rfl, hb1⟩; obtain ⟨D1, rfl⟩ := gr_of_below hb1; clear hb1)
    | (go_at_call 14; refine (append_p (ld := o.data) (HH.out.inv.below (by (repeat (first | exact Below.refl _ _ | refine bg_al ?_ | refine bg_gr ?_ | refine bg_drn ?_ | refine bg_dr ?_ | assumption)))).dev (by have := HK.out; omega) (HO.out.below (show Below w0.heap.size w0 _ from HH.out.inv.bel.trans ((show Below w.heap.size w _ by (repeat (first | exact Below.refl _ _ | refine bg_al ?_ | refine bg_gr ?_ | refine bg_drn ?_ | refine bg_dr ?_ | assumption))).mono HH.out.inv.bel.size))) HROOM.out HR1.out).mono ?_; rintro en w2 ⟨rfl, ha⟩; have HSD := Lib.hid (HO.out.below ((HH.out.inv.below (by (repeat (first | exact Below.refl _ _ | refine bg_al ?_ | refine bg_gr ?_ | refine bg_drn ?_ | refine bg_dr ?_ | assumption)))).call2 ha).bel); have HM := Lib.hid ((HH.out.inv.below (by (repeat (first | exact Below.refl _ _ | refine bg_al ?_ | refine bg_gr ?_ | refine bg_drn ?_ | refine bg_dr ?_ | assumption)))).call2 ha); have HOP := Lib.hid (op_after HH.out (by (repeat (first | exact Below.refl _ _ | refine bg_al ?_ | refine bg_gr ?_ | refine bg_drn ?_ | refine bg_dr ?_ | assumption))) ha); obtain ⟨b0, -, b33, b34, b35, -⟩ := op_c HOP.out; obtain ⟨kv2, dv2, lA2, lc2, hP2, hsb2, hlc2, hmx2⟩ := HM.out.parts; have HP2 := Lib.hid hP2; have HSB2 := Lib.hid hsb2; obtain ⟨p0, p1, p2, p3, p4, p5, plt⟩ := pl_c hP2; have pf4 := pl_fr hP2 4; clear ha hP2 hsb2))
  go_quiet (fail)
  go_wp2_with fail
  refine with_world (fun W2 hW2 => ?_)
  have HW2 := Lib.hid hW2
  have hbW : Below w2.heap.size w2 W2 := by rw [hW2]; (repeat (first | exact Below.refl _ _ | refine bg_al ?_ | refine bg_gr ?_ | refine bg_drn ?_ | refine bg_dr ?_ | assumption))
  have HBW := Lib.hid hbW
  have hP3 := pl_bel HP2.out hbW
  obtain ⟨-, -, -, -, r4, -, rlt⟩ := pl_c hP3
  have rf4 := pl_fr hP3 4
  obtain ⟨-, -, r33, -⟩ := op_c (op_bel HOP.out hbW)
  have olt := op_lt HOP.out
  have olt2 : w.heap.size < W2.heap.size := by have := hbW.size; omega
  clear hW2 hbW hP3
  go_region_law (first
    | (refine step_ap bytesT (by rfl) (by rfl) (by rfl) (own_drew0 (own_lit W2 #[] 5 (base := W2.heap.size) (n := 0) (Nat.le_refl _) (by simp [maxLen]) (by rfl))) (by rfl) ((HSB2.out.1.below (HBW.out.trans ((show Below W2.heap.size W2 _ by (repeat (first | exact Below.refl _ _ | refine bg_al ?_ | refine bg_gr ?_ | refine bg_drn ?_ | refine bg_dr ?_ | assumption))).mono HBW.out.size))).src) (bv_one s.log) (by simp only [maxLen]; omega) (by omega) (by simp) ?_; intro v9 w9 hap; have hb9 : Below W2.heap.size W2 w9 := (ap_below (a := W2) (B := W2.heap.size) (by (repeat (first | exact Below.refl _ _ | refine bg_al ?_ | refine bg_gr ?_ | refine bg_drn ?_ | refine bg_dr ?_ | assumption))) hap (by simp) (fun k hk => by simp [Value.ownBlock] at hk; omega)); have HB9 := Lib.hid hb9; have hP9 := pl_bel (pl_bel HP2.out HBW.out) hb9; obtain ⟨-, -, -, -, s4, -, slt⟩ := pl_c hP9; have sf4 := pl_fr hP9 4; obtain ⟨-, -, s33, -⟩ := op_c (op_bel (op_bel HOP.out HBW.out) hb9); have HAP := Lib.hid hap; clear hb9 hP9 hap; have _m1 := HAP)
    | (have _t := _m1; refine step_ap bytesT (by rfl) (by rfl) (by rfl) HAP.out.1 (by rfl) ((HSD.out.below (HBW.out.trans (HB9.out.mono HBW.out.size))).src) (bv_one o.data) (by simp only [maxLen]; simp; omega) (by simp; omega) (by have := HB9.out.size; omega) ?_; intro v10 w10 hap2; have hb10 : Below W2.heap.size W2 w10 := (ap_below HB9.out hap2 HB9.out.size (fun k hk => own_ge HAP.out.1 k hk)); have HB10 := Lib.hid hb10; have hP10 := pl_bel (pl_bel HP2.out HBW.out) hb10; obtain ⟨-, -, -, -, u4, -, ult⟩ := pl_c hP10; have uf4 := pl_fr hP10 4; have HAP2 := Lib.hid hap2; obtain ⟨vA10, vc10, rfl⟩ := row_slice hap2.1; clear hb10 hP10 hap2))
  all_goals go_wp2_with fail
  all_goals  go_ret
  all_goals
    have hown : OwnB w10 W2.heap.size (.slice vA10 (s.log.length + o.data.length) vc10) (s.log ++ o.data) := by
      have := HAP2.out.1
      unfold OwnB
      simpa using this
    refine ⟨rfl, _, { s with log := s.log ++ o.data }, keys, datas, HM.out.setP (chg_set (S := fun j => j = P) (Below.chg _ (HBW.out.trans (HB10.out.mono HBW.out.size))) rfl _) (fun kv dv lv hl => ?_) ⟨rfl, rfl⟩ ⟨HBD.out.slots, HBD.out.room, by simp; have := HROOM.out; omega, HBD.out.keys, HBD.out.cnt⟩⟩
    have e := HP2.out
    unfold PlAt at hl e
    rw [hl] at e
    obtain ⟨rfl, rfl, rfl⟩ := plC_inj e
    exact ⟨_, pl_set4 (pl_bel (pl_bel HP2.out HBW.out) HB10.out) _, (DB.own (F := fun _ => True) hown (fun _ _ _ => trivial)).chg (S := fun j => j = P) (chg_set (S := fun j => j = P) (Chg.refl _ _) rfl _) (pl_notbytes (pl_bel (pl_bel HP2.out HBW.out) HB10.out))⟩
end Go.Proofs.Ytcbglojjbgenlaa
