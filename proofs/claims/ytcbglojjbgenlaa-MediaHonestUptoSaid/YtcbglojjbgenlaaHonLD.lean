/- does of the plain thing: the cases that leave it as it was. -/
import Derived.Test.YtcbglojjbgenlaaHnH
namespace Go.Proofs.Ytcbglojjbgenlaa
open Go.RowKit Go.MapL Go.ChangeMaps Go.MapKept
set_option linter.unusedSimpArgs false
set_option linter.unusedVariables false
attribute [local go_sem] size_gr cell_gr frozen_gr setCell_gr gr_drew gr_drewN lt_k lt_kc le_k le_kc sub_kc nil29 nil28 nil49 mkmap size_setBlock cell_setB opC_len opC_0 opC_33 opC_34 opC_35 opC_0g opC_33g opC_34g opC_35g
attribute [local go_sem ↓] Go.wp_at_zero Go.wp_at_succ

theorem LInv.cells {w0 w : World} {D : Nat} {F : Nat → Prop} {P : Nat} {s : Hn} {keys : List H32} {datas : List Bs} {k : Nat} (h : LInv w0 w D F P s keys datas k) : ∃ kA kc dA dc lA lc,
    w.cell? ⟨P, 0, none⟩ = some (.int .i64 s.slots) ∧ w.cell? ⟨P, 1, none⟩ = some (.int .i64 s.room) ∧ w.cell? ⟨P, 2, none⟩ = some (.slice kA keys.length kc) ∧ w.cell? ⟨P, 3, none⟩ = some (.slice dA keys.length dc) ∧ w.cell? ⟨P, 4, none⟩ = some (.slice lA s.log.length lc) ∧ w.cell? ⟨P, 5, none⟩ = some (.int .i64 s.cnt) ∧ P < w.heap.size ∧ SB w (.slice lA s.log.length lc) s.log := by
  obtain ⟨kv, dv, lv, vals, h1, h2, h4, h5, h6, h7, h8, h9⟩ := h.mem
  obtain ⟨kA, kc, rfl⟩ := row_slice h4
  obtain ⟨dA, dc, rfl⟩ := row_slice h6
  have h9' := h9.1
  obtain ⟨lA, lc, rfl, -⟩ := h9.1
  obtain ⟨hc0, hc1, hc2, hc3, hc4, hc5, hPlt⟩ := pl_c h1
  exact ⟨kA, kc, dA, dc, lA, lc, hc0, hc1, hc2, hc3, hc4, hc5, hPlt, h9'⟩

set_option maxHeartbeats 1000000 in
set_option maxRecDepth 8000 in
theorem lother {w0 w : World} {D : Nat} {F : Nat → Prop} {P : Nat} {s : Hn} {keys : List H32} {datas : List Bs} {k : Nat} (h : LInv w0 w D F P s keys datas k) (hk : k < 1000000) (o : Opv) (ho : SB w0 o.da o.data) (hol : o.data.length ≤ 1048576) (hkind : o.kind < 1 ∨ 10 < o.kind) :
    Calls Try.prog 26 #[.pointer (some ⟨P, 0, none⟩), .pointer (some ⟨D, 0, none⟩), .agg (opC o).toArray] w fun e w' => e = .returned (.bool true) ∧ LDone w0 w' D P (k + 1) := by
  have HH := Lib.hid (head_mk o h)
  obtain ⟨kA, kc, dA, dc, lA, lc, hc0, hc1, hc2, hc3, hc4, hc5, hPlt, hpsb⟩ := h.cells
  have HK := Lib.hid hk
  have HO := Lib.hid ho
  have HOL := Lib.hid hol
  have hr1 : s.room ≤ 1048576 := by have := h.bd.room; omega
  have hlg : (s.log.length : Int) ≤ 1048576 := by have := h.bd.room; have := h.bd.log; omega
  have hol2 : (o.data.length : Int) ≤ 1048576 := by omega
  have hk1 : ((o.kind == 1) : Bool) = false := by simp; omega
  have hk2 : ((o.kind == 2) : Bool) = false := by simp; omega
  have hk3 : ((o.kind == 3) : Bool) = false := by simp; omega
  have hk4 : ((o.kind == 4) : Bool) = false := by simp; omega
  have hk5 : ((o.kind == 5) : Bool) = false := by simp; omega
  have hk6 : ((o.kind == 6) : Bool) = false := by simp; omega
  have hk7 : ((o.kind == 7) : Bool) = false := by simp; omega
  have hk8 : ((o.kind == 8) : Bool) = false := by simp; omega
  have hk9 : ((o.kind == 9) : Bool) = false := by simp; omega
  have hk10 : ((o.kind == 10) : Bool) = false := by simp; omega
  clear h hpsb hk ho hol
  go_enter Try.func26, Try.ntmps26
  go_wp2_with (first
    | (refine wpList_load_mid rfl 33 _ rfl _ _ (by rfl) (o.key.1.map bv) _ (op_c (HH.out.op _ (by (repeat (first | exact Below.refl _ _ | refine bg_al ?_ | refine bg_gr ?_ | refine bg_drn ?_ | refine bg_dr ?_ | assumption))))).2.1 Try.underlying33 rfl (hash_info o.key) ?_)
    | (go_at_call 40; refine (HH.out.at_ _ (by (repeat (first | exact Below.refl _ _ | refine bg_al ?_ | refine bg_gr ?_ | refine bg_drn ?_ | refine bg_dr ?_ | assumption)))).mono ?_; rintro en w1 ⟨rfl, hb1⟩; obtain ⟨D1, rfl⟩ := gr_of_below hb1; clear hb1))
  go_ret
  exact ⟨rfl, _, _, _, _, (HH.out.inv.below (by (repeat (first | exact Below.refl _ _ | refine bg_al ?_ | refine bg_gr ?_ | refine bg_drn ?_ | refine bg_dr ?_ | assumption)))).more⟩

set_option maxHeartbeats 1000000 in
set_option maxRecDepth 8000 in
theorem ldelete_no {w0 w : World} {D : Nat} {F : Nat → Prop} {P : Nat} {s : Hn} {keys : List H32} {datas : List Bs} {k : Nat} (h : LInv w0 w D F P s keys datas k) (hk : k < 1000000) (o : Opv) (ho : SB w0 o.da o.data) (hol : o.data.length ≤ 1048576) (hkind : o.kind = 3) (hq : o.key ∉ keys) :
    Calls Try.prog 26 #[.pointer (some ⟨P, 0, none⟩), .pointer (some ⟨D, 0, none⟩), .agg (opC o).toArray] w fun e w' => e = .returned (.bool true) ∧ LDone w0 w' D P (k + 1) := by
  have HH := Lib.hid (head_mk o h)
  obtain ⟨kA, kc, dA, dc, lA, lc, hc0, hc1, hc2, hc3, hc4, hc5, hPlt, hpsb⟩ := h.cells
  have HK := Lib.hid hk
  have HO := Lib.hid ho
  have HOL := Lib.hid hol
  have hr1 : s.room ≤ 1048576 := by have := h.bd.room; omega
  have hlg : (s.log.length : Int) ≤ 1048576 := by have := h.bd.room; have := h.bd.log; omega
  have hol2 : (o.data.length : Int) ≤ 1048576 := by omega
  have hk1 : ((o.kind == 1) : Bool) = false := by rw [hkind]; rfl
  have hk2 : ((o.kind == 2) : Bool) = false := by rw [hkind]; rfl
  have hk3 : ((o.kind == 3) : Bool) = true := by rw [hkind]; rfl
  have hat : atI keys o.key = -1 := by unfold atI; rw [if_neg hq]
  have HQ := Lib.hid (h.kd.no _ hq)
  clear h hpsb hk ho hol
  go_enter Try.func26, Try.ntmps26
  go_wp2_with (first
    | (refine wpList_load_mid rfl 33 _ rfl _ _ (by rfl) (o.key.1.map bv) _ (op_c (HH.out.op _ (by (repeat (first | exact Below.refl _ _ | refine bg_al ?_ | refine bg_gr ?_ | refine bg_drn ?_ | refine bg_dr ?_ | assumption))))).2.1 Try.underlying33 rfl (hash_info o.key) ?_)
    | (go_at_call 40; refine (HH.out.at_ _ (by (repeat (first | exact Below.refl _ _ | refine bg_al ?_ | refine bg_gr ?_ | refine bg_drn ?_ | refine bg_dr ?_ | assumption)))).mono ?_; rw [hat]; rintro en w1 ⟨rfl, hb1⟩; obtain ⟨D1, rfl⟩ := gr_of_below hb1; clear hb1)
    | (go_at_call 13; refine (delete_no_p (q := o.key) (HH.out.inv.below (by (repeat (first | exact Below.refl _ _ | refine bg_al ?_ | refine bg_gr ?_ | refine bg_drn ?_ | refine bg_dr ?_ | assumption)))).dev (by have := HK.out; omega) HQ.out).mono ?_; rintro en w2 ⟨rfl, ha⟩; have HI := Lib.hid ((HH.out.inv.below (by (repeat (first | exact Below.refl _ _ | refine bg_al ?_ | refine bg_gr ?_ | refine bg_drn ?_ | refine bg_dr ?_ | assumption)))).call ha); have HOP := Lib.hid (op_after HH.out (by (repeat (first | exact Below.refl _ _ | refine bg_al ?_ | refine bg_gr ?_ | refine bg_drn ?_ | refine bg_dr ?_ | assumption))) ha); obtain ⟨b0, -, b33, b34, b35, -⟩ := op_c HOP.out; obtain ⟨kA2, kc2, dA2, dc2, lA2, lc2, p0, p1, p2, p3, p4, p5, plt, psb⟩ := HI.out.cells; have PSB := Lib.hid psb; clear ha psb))
  go_ret
  exact ⟨rfl, _, _, _, _, HI.out.below (by (repeat (first | exact Below.refl _ _ | refine bg_al ?_ | refine bg_gr ?_ | refine bg_drn ?_ | refine bg_dr ?_ | assumption)))⟩

set_option maxHeartbeats 1000000 in
set_option maxRecDepth 8000 in
theorem lread {w0 w : World} {D : Nat} {F : Nat → Prop} {P : Nat} {s : Hn} {keys : List H32} {datas : List Bs} {k : Nat} (h : LInv w0 w D F P s keys datas k) (hk : k < 1000000) (o : Opv) (ho : SB w0 o.da o.data) (hol : o.data.length ≤ 1048576) (hkind : o.kind = 5)  :
    Calls Try.prog 26 #[.pointer (some ⟨P, 0, none⟩), .pointer (some ⟨D, 0, none⟩), .agg (opC o).toArray] w fun e w' => e = .returned (.bool true) ∧ LDone w0 w' D P (k + 1) := by
  have HH := Lib.hid (head_mk o h)
  obtain ⟨kA, kc, dA, dc, lA, lc, hc0, hc1, hc2, hc3, hc4, hc5, hPlt, hpsb⟩ := h.cells
  have HK := Lib.hid hk
  have HO := Lib.hid ho
  have HOL := Lib.hid hol
  have hr1 : s.room ≤ 1048576 := by have := h.bd.room; omega
  have hlg : (s.log.length : Int) ≤ 1048576 := by have := h.bd.room; have := h.bd.log; omega
  have hol2 : (o.data.length : Int) ≤ 1048576 := by omega
  have hk1 : ((o.kind == 1) : Bool) = false := by rw [hkind]; rfl
  have hk2 : ((o.kind == 2) : Bool) = false := by rw [hkind]; rfl
  have hk3 : ((o.kind == 3) : Bool) = false := by rw [hkind]; rfl
  have hk4 : ((o.kind == 4) : Bool) = false := by rw [hkind]; rfl
  have hk5 : ((o.kind == 5) : Bool) = true := by rw [hkind]; rfl
  clear h hpsb hk ho hol
  go_enter Try.func26, Try.ntmps26
  go_wp2_with (first
    | (refine wpList_load_mid rfl 33 _ rfl _ _ (by rfl) (o.key.1.map bv) _ (op_c (HH.out.op _ (by (repeat (first | exact Below.refl _ _ | refine bg_al ?_ | refine bg_gr ?_ | refine bg_drn ?_ | refine bg_dr ?_ | assumption))))).2.1 Try.underlying33 rfl (hash_info o.key) ?_)
    | (go_at_call 40; refine (HH.out.at_ _ (by (repeat (first | exact Below.refl _ _ | refine bg_al ?_ | refine bg_gr ?_ | refine bg_drn ?_ | refine bg_dr ?_ | assumption)))).mono ?_; rintro en w1 ⟨rfl, hb1⟩; obtain ⟨D1, rfl⟩ := gr_of_below hb1; clear hb1)
    | (go_at_call 10; refine (read_p (HH.out.inv.below (by (repeat (first | exact Below.refl _ _ | refine bg_al ?_ | refine bg_gr ?_ | refine bg_drn ?_ | refine bg_dr ?_ | assumption)))).dev (by have := HK.out; omega)).mono ?_; rintro en w2 ⟨A2, c2, rfl, hsb, ha⟩; have HSB := Lib.hid hsb; have HI := Lib.hid ((HH.out.inv.below (by (repeat (first | exact Below.refl _ _ | refine bg_al ?_ | refine bg_gr ?_ | refine bg_drn ?_ | refine bg_dr ?_ | assumption)))).call ha); have HOP := Lib.hid (op_after HH.out (by (repeat (first | exact Below.refl _ _ | refine bg_al ?_ | refine bg_gr ?_ | refine bg_drn ?_ | refine bg_dr ?_ | assumption))) ha); obtain ⟨b0, -, b33, b34, b35, -⟩ := op_c HOP.out; obtain ⟨kA2, kc2, dA2, dc2, lA2, lc2, p0, p1, p2, p3, p4, p5, plt, psb⟩ := HI.out.cells; have PSB := Lib.hid psb; clear ha psb; clear hsb)
    | (go_at_call 28; refine (same_any _ _ s.log s.log _ (HSB.out.below (by (repeat (first | exact Below.refl _ _ | refine bg_al ?_ | refine bg_gr ?_ | refine bg_drn ?_ | refine bg_dr ?_ | assumption)))) (PSB.out.below (by (repeat (first | exact Below.refl _ _ | refine bg_al ?_ | refine bg_gr ?_ | refine bg_drn ?_ | refine bg_dr ?_ | assumption))))).mono ?_; rintro en w3 ⟨rfl, n3, rfl⟩))
  go_ret
  exact ⟨rfl, _, _, _, _, HI.out.below (by (repeat (first | exact Below.refl _ _ | refine bg_al ?_ | refine bg_gr ?_ | refine bg_drn ?_ | refine bg_dr ?_ | assumption)))⟩

set_option maxHeartbeats 1000000 in
set_option maxRecDepth 8000 in
theorem lappend_full {w0 w : World} {D : Nat} {F : Nat → Prop} {P : Nat} {s : Hn} {keys : List H32} {datas : List Bs} {k : Nat} (h : LInv w0 w D F P s keys datas k) (hk : k < 1000000) (o : Opv) (ho : SB w0 o.da o.data) (hol : o.data.length ≤ 1048576) (hkind : o.kind = 6) (hfull : s.room < (s.log.length : Int) + o.data.length) :
    Calls Try.prog 26 #[.pointer (some ⟨P, 0, none⟩), .pointer (some ⟨D, 0, none⟩), .agg (opC o).toArray] w fun e w' => e = .returned (.bool true) ∧ LDone w0 w' D P (k + 1) := by
  have HH := Lib.hid (head_mk o h)
  obtain ⟨kA, kc, dA, dc, lA, lc, hc0, hc1, hc2, hc3, hc4, hc5, hPlt, hpsb⟩ := h.cells
  have HK := Lib.hid hk
  have HO := Lib.hid ho
  have HOL := Lib.hid hol
  have hr1 : s.room ≤ 1048576 := by have := h.bd.room; omega
  have hlg : (s.log.length : Int) ≤ 1048576 := by have := h.bd.room; have := h.bd.log; omega
  have hol2 : (o.data.length : Int) ≤ 1048576 := by omega
  have hk1 : ((o.kind == 1) : Bool) = false := by rw [hkind]; rfl
  have hk2 : ((o.kind == 2) : Bool) = false := by rw [hkind]; rfl
  have hk3 : ((o.kind == 3) : Bool) = false := by rw [hkind]; rfl
  have hk4 : ((o.kind == 4) : Bool) = false := by rw [hkind]; rfl
  have hk5 : ((o.kind == 5) : Bool) = false := by rw [hkind]; rfl
  have hk6 : ((o.kind == 6) : Bool) = true := by rw [hkind]; rfl
  have HF := Lib.hid hfull
  clear h hpsb hk ho hol
  go_enter Try.func26, Try.ntmps26
  go_wp2_with (first
    | (refine wpList_load_mid rfl 33 _ rfl _ _ (by rfl) (o.key.1.map bv) _ (op_c (HH.out.op _ (by (repeat (first | exact Below.refl _ _ | refine bg_al ?_ | refine bg_gr ?_ | refine bg_drn ?_ | refine bg_dr ?_ | assumption))))).2.1 Try.underlying33 rfl (hash_info o.key) ?_)
    | (go_at_call 40; refine (HH.out.at_ _ (by (repeat (first | exact Below.refl _ _ | refine bg_al ?_ | refine bg_gr ?_ | refine bg_drn ?_ | refine bg_dr ?_ | assumption)))).mono ?_; rintro en w1 ⟨rfl, hb1⟩; obtain ⟨D1, rfl⟩ := gr_of_below hb1; clear hb1)
    | (go_at_call 14; refine (append_no_p (ld := o.data) (HH.out.inv.below (by (repeat (first | exact Below.refl _ _ | refine bg_al ?_ | refine bg_gr ?_ | refine bg_drn ?_ | refine bg_dr ?_ | assumption)))).dev (by have := HK.out; omega) (HO.out.below (show Below w0.heap.size w0 _ from HH.out.inv.bel.trans ((show Below w.heap.size w _ by (repeat (first | exact Below.refl _ _ | refine bg_al ?_ | refine bg_gr ?_ | refine bg_drn ?_ | refine bg_dr ?_ | assumption))).mono HH.out.inv.bel.size))) (by have := HOL.out; omega) HF.out).mono ?_; rintro en w2 ⟨rfl, ha⟩; have HI := Lib.hid ((HH.out.inv.below (by (repeat (first | exact Below.refl _ _ | refine bg_al ?_ | refine bg_gr ?_ | refine bg_drn ?_ | refine bg_dr ?_ | assumption)))).call ha); have HOP := Lib.hid (op_after HH.out (by (repeat (first | exact Below.refl _ _ | refine bg_al ?_ | refine bg_gr ?_ | refine bg_drn ?_ | refine bg_dr ?_ | assumption))) ha); obtain ⟨b0, -, b33, b34, b35, -⟩ := op_c HOP.out; obtain ⟨kA2, kc2, dA2, dc2, lA2, lc2, p0, p1, p2, p3, p4, p5, plt, psb⟩ := HI.out.cells; have PSB := Lib.hid psb; clear ha psb))
  go_quiet (fail)
  go_wp2_with fail
  go_ret
  exact ⟨rfl, _, _, _, _, HI.out.below (by (repeat (first | exact Below.refl _ _ | refine bg_al ?_ | refine bg_gr ?_ | refine bg_drn ?_ | refine bg_dr ?_ | assumption)))⟩

set_option maxHeartbeats 1000000 in
set_option maxRecDepth 8000 in
theorem ltrim_neg {w0 w : World} {D : Nat} {F : Nat → Prop} {P : Nat} {s : Hn} {keys : List H32} {datas : List Bs} {k : Nat} (h : LInv w0 w D F P s keys datas k) (hk : k < 1000000) (o : Opv) (ho : SB w0 o.da o.data) (hol : o.data.length ≤ 1048576) (hkind : o.kind = 7) (hn : o.n < 0) :
    Calls Try.prog 26 #[.pointer (some ⟨P, 0, none⟩), .pointer (some ⟨D, 0, none⟩), .agg (opC o).toArray] w fun e w' => e = .returned (.bool true) ∧ LDone w0 w' D P (k + 1) := by
  have HH := Lib.hid (head_mk o h)
  obtain ⟨kA, kc, dA, dc, lA, lc, hc0, hc1, hc2, hc3, hc4, hc5, hPlt, hpsb⟩ := h.cells
  have HK := Lib.hid hk
  have HO := Lib.hid ho
  have HOL := Lib.hid hol
  have hr1 : s.room ≤ 1048576 := by have := h.bd.room; omega
  have hlg : (s.log.length : Int) ≤ 1048576 := by have := h.bd.room; have := h.bd.log; omega
  have hol2 : (o.data.length : Int) ≤ 1048576 := by omega
  have hk1 : ((o.kind == 1) : Bool) = false := by rw [hkind]; rfl
  have hk2 : ((o.kind == 2) : Bool) = false := by rw [hkind]; rfl
  have hk3 : ((o.kind == 3) : Bool) = false := by rw [hkind]; rfl
  have hk4 : ((o.kind == 4) : Bool) = false := by rw [hkind]; rfl
  have hk5 : ((o.kind == 5) : Bool) = false := by rw [hkind]; rfl
  have hk6 : ((o.kind == 6) : Bool) = false := by rw [hkind]; rfl
  have hk7 : ((o.kind == 7) : Bool) = true := by rw [hkind]; rfl
  have HN := Lib.hid hn
  clear h hpsb hk ho hol
  go_enter Try.func26, Try.ntmps26
  go_wp2_with (first
    | (refine wpList_load_mid rfl 33 _ rfl _ _ (by rfl) (o.key.1.map bv) _ (op_c (HH.out.op _ (by (repeat (first | exact Below.refl _ _ | refine bg_al ?_ | refine bg_gr ?_ | refine bg_drn ?_ | refine bg_dr ?_ | assumption))))).2.1 Try.underlying33 rfl (hash_info o.key) ?_)
    | (go_at_call 40; refine (HH.out.at_ _ (by (repeat (first | exact Below.refl _ _ | refine bg_al ?_ | refine bg_gr ?_ | refine bg_drn ?_ | refine bg_dr ?_ | assumption)))).mono ?_; rintro en w1 ⟨rfl, hb1⟩; obtain ⟨D1, rfl⟩ := gr_of_below hb1; clear hb1)
    | (go_at_call 15; refine (trim_no_p (n := o.n) (HH.out.inv.below (by (repeat (first | exact Below.refl _ _ | refine bg_al ?_ | refine bg_gr ?_ | refine bg_drn ?_ | refine bg_dr ?_ | assumption)))).dev (by have := HK.out; omega) (by have := HN.out; omega)).mono ?_; rintro en w2 ⟨rfl, ha⟩; have HI := Lib.hid ((HH.out.inv.below (by (repeat (first | exact Below.refl _ _ | refine bg_al ?_ | refine bg_gr ?_ | refine bg_drn ?_ | refine bg_dr ?_ | assumption)))).call ha); have HOP := Lib.hid (op_after HH.out (by (repeat (first | exact Below.refl _ _ | refine bg_al ?_ | refine bg_gr ?_ | refine bg_drn ?_ | refine bg_dr ?_ | assumption))) ha); obtain ⟨b0, -, b33, b34, b35, -⟩ := op_c HOP.out; obtain ⟨kA2, kc2, dA2, dc2, lA2, lc2, p0, p1, p2, p3, p4, p5, plt, psb⟩ := HI.out.cells; have PSB := Lib.hid psb; clear ha psb))
  go_ret
  exact ⟨rfl, _, _, _, _, HI.out.below (by (repeat (first | exact Below.refl _ _ | refine bg_al ?_ | refine bg_gr ?_ | refine bg_drn ?_ | refine bg_dr ?_ | assumption)))⟩

set_option maxHeartbeats 1000000 in
set_option maxRecDepth 8000 in
theorem ltrim_far {w0 w : World} {D : Nat} {F : Nat → Prop} {P : Nat} {s : Hn} {keys : List H32} {datas : List Bs} {k : Nat} (h : LInv w0 w D F P s keys datas k) (hk : k < 1000000) (o : Opv) (ho : SB w0 o.da o.data) (hol : o.data.length ≤ 1048576) (hkind : o.kind = 7) (hn : 0 ≤ o.n) (hn2 : (s.log.length : Int) < o.n) :
    Calls Try.prog 26 #[.pointer (some ⟨P, 0, none⟩), .pointer (some ⟨D, 0, none⟩), .agg (opC o).toArray] w fun e w' => e = .returned (.bool true) ∧ LDone w0 w' D P (k + 1) := by
  have HH := Lib.hid (head_mk o h)
  obtain ⟨kA, kc, dA, dc, lA, lc, hc0, hc1, hc2, hc3, hc4, hc5, hPlt, hpsb⟩ := h.cells
  have HK := Lib.hid hk
  have HO := Lib.hid ho
  have HOL := Lib.hid hol
  have hr1 : s.room ≤ 1048576 := by have := h.bd.room; omega
  have hlg : (s.log.length : Int) ≤ 1048576 := by have := h.bd.room; have := h.bd.log; omega
  have hol2 : (o.data.length : Int) ≤ 1048576 := by omega
  have hk1 : ((o.kind == 1) : Bool) = false := by rw [hkind]; rfl
  have hk2 : ((o.kind == 2) : Bool) = false := by rw [hkind]; rfl
  have hk3 : ((o.kind == 3) : Bool) = false := by rw [hkind]; rfl
  have hk4 : ((o.kind == 4) : Bool) = false := by rw [hkind]; rfl
  have hk5 : ((o.kind == 5) : Bool) = false := by rw [hkind]; rfl
  have hk6 : ((o.kind == 6) : Bool) = false := by rw [hkind]; rfl
  have hk7 : ((o.kind == 7) : Bool) = true := by rw [hkind]; rfl
  have HN := Lib.hid hn2
  have hn0 : ¬ o.n < 0 := by omega
  clear h hpsb hk ho hol
  go_enter Try.func26, Try.ntmps26
  go_wp2_with (first
    | (refine wpList_load_mid rfl 33 _ rfl _ _ (by rfl) (o.key.1.map bv) _ (op_c (HH.out.op _ (by (repeat (first | exact Below.refl _ _ | refine bg_al ?_ | refine bg_gr ?_ | refine bg_drn ?_ | refine bg_dr ?_ | assumption))))).2.1 Try.underlying33 rfl (hash_info o.key) ?_)
    | (go_at_call 40; refine (HH.out.at_ _ (by (repeat (first | exact Below.refl _ _ | refine bg_al ?_ | refine bg_gr ?_ | refine bg_drn ?_ | refine bg_dr ?_ | assumption)))).mono ?_; rintro en w1 ⟨rfl, hb1⟩; obtain ⟨D1, rfl⟩ := gr_of_below hb1; clear hb1)
    | (go_at_call 15; refine (trim_no_p (n := o.n) (HH.out.inv.below (by (repeat (first | exact Below.refl _ _ | refine bg_al ?_ | refine bg_gr ?_ | refine bg_drn ?_ | refine bg_dr ?_ | assumption)))).dev (by have := HK.out; omega) (by have := HN.out; omega)).mono ?_; rintro en w2 ⟨rfl, ha⟩; have HI := Lib.hid ((HH.out.inv.below (by (repeat (first | exact Below.refl _ _ | refine bg_al ?_ | refine bg_gr ?_ | refine bg_drn ?_ | refine bg_dr ?_ | assumption)))).call ha); have HOP := Lib.hid (op_after HH.out (by (repeat (first | exact Below.refl _ _ | refine bg_al ?_ | refine bg_gr ?_ | refine bg_drn ?_ | refine bg_dr ?_ | assumption))) ha); obtain ⟨b0, -, b33, b34, b35, -⟩ := op_c HOP.out; obtain ⟨kA2, kc2, dA2, dc2, lA2, lc2, p0, p1, p2, p3, p4, p5, plt, psb⟩ := HI.out.cells; have PSB := Lib.hid psb; clear ha psb))
  go_ret
  exact ⟨rfl, _, _, _, _, HI.out.below (by (repeat (first | exact Below.refl _ _ | refine bg_al ?_ | refine bg_gr ?_ | refine bg_drn ?_ | refine bg_dr ?_ | assumption)))⟩

set_option maxHeartbeats 1000000 in
set_option maxRecDepth 8000 in
theorem lcut_neg {w0 w : World} {D : Nat} {F : Nat → Prop} {P : Nat} {s : Hn} {keys : List H32} {datas : List Bs} {k : Nat} (h : LInv w0 w D F P s keys datas k) (hk : k < 1000000) (o : Opv) (ho : SB w0 o.da o.data) (hol : o.data.length ≤ 1048576) (hkind : o.kind = 8) (hn : o.n < 0) :
    Calls Try.prog 26 #[.pointer (some ⟨P, 0, none⟩), .pointer (some ⟨D, 0, none⟩), .agg (opC o).toArray] w fun e w' => e = .returned (.bool true) ∧ LDone w0 w' D P (k + 1) := by
  have HH := Lib.hid (head_mk o h)
  obtain ⟨kA, kc, dA, dc, lA, lc, hc0, hc1, hc2, hc3, hc4, hc5, hPlt, hpsb⟩ := h.cells
  have HK := Lib.hid hk
  have HO := Lib.hid ho
  have HOL := Lib.hid hol
  have hr1 : s.room ≤ 1048576 := by have := h.bd.room; omega
  have hlg : (s.log.length : Int) ≤ 1048576 := by have := h.bd.room; have := h.bd.log; omega
  have hol2 : (o.data.length : Int) ≤ 1048576 := by omega
  have hk1 : ((o.kind == 1) : Bool) = false := by rw [hkind]; rfl
  have hk2 : ((o.kind == 2) : Bool) = false := by rw [hkind]; rfl
  have hk3 : ((o.kind == 3) : Bool) = false := by rw [hkind]; rfl
  have hk4 : ((o.kind == 4) : Bool) = false := by rw [hkind]; rfl
  have hk5 : ((o.kind == 5) : Bool) = false := by rw [hkind]; rfl
  have hk6 : ((o.kind == 6) : Bool) = false := by rw [hkind]; rfl
  have hk7 : ((o.kind == 7) : Bool) = false := by rw [hkind]; rfl
  have hk8 : ((o.kind == 8) : Bool) = true := by rw [hkind]; rfl
  have HN := Lib.hid hn
  clear h hpsb hk ho hol
  go_enter Try.func26, Try.ntmps26
  go_wp2_with (first
    | (refine wpList_load_mid rfl 33 _ rfl _ _ (by rfl) (o.key.1.map bv) _ (op_c (HH.out.op _ (by (repeat (first | exact Below.refl _ _ | refine bg_al ?_ | refine bg_gr ?_ | refine bg_drn ?_ | refine bg_dr ?_ | assumption))))).2.1 Try.underlying33 rfl (hash_info o.key) ?_)
    | (go_at_call 40; refine (HH.out.at_ _ (by (repeat (first | exact Below.refl _ _ | refine bg_al ?_ | refine bg_gr ?_ | refine bg_drn ?_ | refine bg_dr ?_ | assumption)))).mono ?_; rintro en w1 ⟨rfl, hb1⟩; obtain ⟨D1, rfl⟩ := gr_of_below hb1; clear hb1)
    | (go_at_call 16; refine (cut_no_p (n := o.n) (HH.out.inv.below (by (repeat (first | exact Below.refl _ _ | refine bg_al ?_ | refine bg_gr ?_ | refine bg_drn ?_ | refine bg_dr ?_ | assumption)))).dev (by have := HK.out; omega) (by have := HN.out; omega)).mono ?_; rintro en w2 ⟨rfl, ha⟩; have HI := Lib.hid ((HH.out.inv.below (by (repeat (first | exact Below.refl _ _ | refine bg_al ?_ | refine bg_gr ?_ | refine bg_drn ?_ | refine bg_dr ?_ | assumption)))).call ha); have HOP := Lib.hid (op_after HH.out (by (repeat (first | exact Below.refl _ _ | refine bg_al ?_ | refine bg_gr ?_ | refine bg_drn ?_ | refine bg_dr ?_ | assumption))) ha); obtain ⟨b0, -, b33, b34, b35, -⟩ := op_c HOP.out; obtain ⟨kA2, kc2, dA2, dc2, lA2, lc2, p0, p1, p2, p3, p4, p5, plt, psb⟩ := HI.out.cells; have PSB := Lib.hid psb; clear ha psb))
  go_ret
  exact ⟨rfl, _, _, _, _, HI.out.below (by (repeat (first | exact Below.refl _ _ | refine bg_al ?_ | refine bg_gr ?_ | refine bg_drn ?_ | refine bg_dr ?_ | assumption)))⟩

set_option maxHeartbeats 1000000 in
set_option maxRecDepth 8000 in
theorem lcut_far {w0 w : World} {D : Nat} {F : Nat → Prop} {P : Nat} {s : Hn} {keys : List H32} {datas : List Bs} {k : Nat} (h : LInv w0 w D F P s keys datas k) (hk : k < 1000000) (o : Opv) (ho : SB w0 o.da o.data) (hol : o.data.length ≤ 1048576) (hkind : o.kind = 8) (hn : 0 ≤ o.n) (hn2 : (s.log.length : Int) < o.n) :
    Calls Try.prog 26 #[.pointer (some ⟨P, 0, none⟩), .pointer (some ⟨D, 0, none⟩), .agg (opC o).toArray] w fun e w' => e = .returned (.bool true) ∧ LDone w0 w' D P (k + 1) := by
  have HH := Lib.hid (head_mk o h)
  obtain ⟨kA, kc, dA, dc, lA, lc, hc0, hc1, hc2, hc3, hc4, hc5, hPlt, hpsb⟩ := h.cells
  have HK := Lib.hid hk
  have HO := Lib.hid ho
  have HOL := Lib.hid hol
  have hr1 : s.room ≤ 1048576 := by have := h.bd.room; omega
  have hlg : (s.log.length : Int) ≤ 1048576 := by have := h.bd.room; have := h.bd.log; omega
  have hol2 : (o.data.length : Int) ≤ 1048576 := by omega
  have hk1 : ((o.kind == 1) : Bool) = false := by rw [hkind]; rfl
  have hk2 : ((o.kind == 2) : Bool) = false := by rw [hkind]; rfl
  have hk3 : ((o.kind == 3) : Bool) = false := by rw [hkind]; rfl
  have hk4 : ((o.kind == 4) : Bool) = false := by rw [hkind]; rfl
  have hk5 : ((o.kind == 5) : Bool) = false := by rw [hkind]; rfl
  have hk6 : ((o.kind == 6) : Bool) = false := by rw [hkind]; rfl
  have hk7 : ((o.kind == 7) : Bool) = false := by rw [hkind]; rfl
  have hk8 : ((o.kind == 8) : Bool) = true := by rw [hkind]; rfl
  have HN := Lib.hid hn2
  have hn0 : ¬ o.n < 0 := by omega
  clear h hpsb hk ho hol
  go_enter Try.func26, Try.ntmps26
  go_wp2_with (first
    | (refine wpList_load_mid rfl 33 _ rfl _ _ (by rfl) (o.key.1.map bv) _ (op_c (HH.out.op _ (by (repeat (first | exact Below.refl _ _ | refine bg_al ?_ | refine bg_gr ?_ | refine bg_drn ?_ | refine bg_dr ?_ | assumption))))).2.1 Try.underlying33 rfl (hash_info o.key) ?_)
    | (go_at_call 40; refine (HH.out.at_ _ (by (repeat (first | exact Below.refl _ _ | refine bg_al ?_ | refine bg_gr ?_ | refine bg_drn ?_ | refine bg_dr ?_ | assumption)))).mono ?_; rintro en w1 ⟨rfl, hb1⟩; obtain ⟨D1, rfl⟩ := gr_of_below hb1; clear hb1)
    | (go_at_call 16; refine (cut_no_p (n := o.n) (HH.out.inv.below (by (repeat (first | exact Below.refl _ _ | refine bg_al ?_ | refine bg_gr ?_ | refine bg_drn ?_ | refine bg_dr ?_ | assumption)))).dev (by have := HK.out; omega) (by have := HN.out; omega)).mono ?_; rintro en w2 ⟨rfl, ha⟩; have HI := Lib.hid ((HH.out.inv.below (by (repeat (first | exact Below.refl _ _ | refine bg_al ?_ | refine bg_gr ?_ | refine bg_drn ?_ | refine bg_dr ?_ | assumption)))).call ha); have HOP := Lib.hid (op_after HH.out (by (repeat (first | exact Below.refl _ _ | refine bg_al ?_ | refine bg_gr ?_ | refine bg_drn ?_ | refine bg_dr ?_ | assumption))) ha); obtain ⟨b0, -, b33, b34, b35, -⟩ := op_c HOP.out; obtain ⟨kA2, kc2, dA2, dc2, lA2, lc2, p0, p1, p2, p3, p4, p5, plt, psb⟩ := HI.out.cells; have PSB := Lib.hid psb; clear ha psb))
  go_ret
  exact ⟨rfl, _, _, _, _, HI.out.below (by (repeat (first | exact Below.refl _ _ | refine bg_al ?_ | refine bg_gr ?_ | refine bg_drn ?_ | refine bg_dr ?_ | assumption)))⟩

set_option maxHeartbeats 1000000 in
set_option maxRecDepth 8000 in
theorem lstore_neg {w0 w : World} {D : Nat} {F : Nat → Prop} {P : Nat} {s : Hn} {keys : List H32} {datas : List Bs} {k : Nat} (h : LInv w0 w D F P s keys datas k) (hk : k < 1000000) (o : Opv) (ho : SB w0 o.da o.data) (hol : o.data.length ≤ 1048576) (hkind : o.kind = 10) (hn : o.cnt < 1) :
    Calls Try.prog 26 #[.pointer (some ⟨P, 0, none⟩), .pointer (some ⟨D, 0, none⟩), .agg (opC o).toArray] w fun e w' => e = .returned (.bool true) ∧ LDone w0 w' D P (k + 1) := by
  have HH := Lib.hid (head_mk o h)
  obtain ⟨kA, kc, dA, dc, lA, lc, hc0, hc1, hc2, hc3, hc4, hc5, hPlt, hpsb⟩ := h.cells
  have HK := Lib.hid hk
  have HO := Lib.hid ho
  have HOL := Lib.hid hol
  have hr1 : s.room ≤ 1048576 := by have := h.bd.room; omega
  have hlg : (s.log.length : Int) ≤ 1048576 := by have := h.bd.room; have := h.bd.log; omega
  have hol2 : (o.data.length : Int) ≤ 1048576 := by omega
  have hk1 : ((o.kind == 1) : Bool) = false := by rw [hkind]; rfl
  have hk2 : ((o.kind == 2) : Bool) = false := by rw [hkind]; rfl
  have hk3 : ((o.kind == 3) : Bool) = false := by rw [hkind]; rfl
  have hk4 : ((o.kind == 4) : Bool) = false := by rw [hkind]; rfl
  have hk5 : ((o.kind == 5) : Bool) = false := by rw [hkind]; rfl
  have hk6 : ((o.kind == 6) : Bool) = false := by rw [hkind]; rfl
  have hk7 : ((o.kind == 7) : Bool) = false := by rw [hkind]; rfl
  have hk8 : ((o.kind == 8) : Bool) = false := by rw [hkind]; rfl
  have hk9 : ((o.kind == 9) : Bool) = false := by rw [hkind]; rfl
  have hk10 : ((o.kind == 10) : Bool) = true := by rw [hkind]; rfl
  have HN := Lib.hid hn
  clear h hpsb hk ho hol
  go_enter Try.func26, Try.ntmps26
  go_wp2_with (first
    | (refine wpList_load_mid rfl 33 _ rfl _ _ (by rfl) (o.key.1.map bv) _ (op_c (HH.out.op _ (by (repeat (first | exact Below.refl _ _ | refine bg_al ?_ | refine bg_gr ?_ | refine bg_drn ?_ | refine bg_dr ?_ | assumption))))).2.1 Try.underlying33 rfl (hash_info o.key) ?_)
    | (go_at_call 40; refine (HH.out.at_ _ (by (repeat (first | exact Below.refl _ _ | refine bg_al ?_ | refine bg_gr ?_ | refine bg_drn ?_ | refine bg_dr ?_ | assumption)))).mono ?_; rintro en w1 ⟨rfl, hb1⟩; obtain ⟨D1, rfl⟩ := gr_of_below hb1; clear hb1)
    | (refine wpList_load_mid rfl 39 _ rfl _ _ (by rfl) (regC o.cnt o.tag) _ (op_c (HH.out.op _ (by (repeat (first | exact Below.refl _ _ | refine bg_al ?_ | refine bg_gr ?_ | refine bg_drn ?_ | refine bg_dr ?_ | assumption))))).2.2.2.2.2 Try.underlying39 rfl (by rw [reg_len]; exact regInfo) ?_)
    | (go_at_call 17; refine (setreg_bad_p (HH.out.inv.below (by (repeat (first | exact Below.refl _ _ | refine bg_al ?_ | refine bg_gr ?_ | refine bg_drn ?_ | refine bg_dr ?_ | assumption)))).dev (by have := HN.out; omega)).mono ?_; rintro en w2 ⟨rfl, ha⟩; have HI := Lib.hid ((HH.out.inv.below (by (repeat (first | exact Below.refl _ _ | refine bg_al ?_ | refine bg_gr ?_ | refine bg_drn ?_ | refine bg_dr ?_ | assumption)))).call ha); have HOP := Lib.hid (op_after HH.out (by (repeat (first | exact Below.refl _ _ | refine bg_al ?_ | refine bg_gr ?_ | refine bg_drn ?_ | refine bg_dr ?_ | assumption))) ha); obtain ⟨b0, -, b33, b34, b35, -⟩ := op_c HOP.out; obtain ⟨kA2, kc2, dA2, dc2, lA2, lc2, p0, p1, p2, p3, p4, p5, plt, psb⟩ := HI.out.cells; have PSB := Lib.hid psb; clear ha psb))
  go_ret
  exact ⟨rfl, _, _, _, _, HI.out.below (by (repeat (first | exact Below.refl _ _ | refine bg_al ?_ | refine bg_gr ?_ | refine bg_drn ?_ | refine bg_dr ?_ | assumption)))⟩

set_option maxHeartbeats 1000000 in
set_option maxRecDepth 8000 in
theorem lstore_far {w0 w : World} {D : Nat} {F : Nat → Prop} {P : Nat} {s : Hn} {keys : List H32} {datas : List Bs} {k : Nat} (h : LInv w0 w D F P s keys datas k) (hk : k < 1000000) (o : Opv) (ho : SB w0 o.da o.data) (hol : o.data.length ≤ 1048576) (hkind : o.kind = 10) (hn : 1099511627776 < o.cnt) :
    Calls Try.prog 26 #[.pointer (some ⟨P, 0, none⟩), .pointer (some ⟨D, 0, none⟩), .agg (opC o).toArray] w fun e w' => e = .returned (.bool true) ∧ LDone w0 w' D P (k + 1) := by
  have HH := Lib.hid (head_mk o h)
  obtain ⟨kA, kc, dA, dc, lA, lc, hc0, hc1, hc2, hc3, hc4, hc5, hPlt, hpsb⟩ := h.cells
  have HK := Lib.hid hk
  have HO := Lib.hid ho
  have HOL := Lib.hid hol
  have hr1 : s.room ≤ 1048576 := by have := h.bd.room; omega
  have hlg : (s.log.length : Int) ≤ 1048576 := by have := h.bd.room; have := h.bd.log; omega
  have hol2 : (o.data.length : Int) ≤ 1048576 := by omega
  have hk1 : ((o.kind == 1) : Bool) = false := by rw [hkind]; rfl
  have hk2 : ((o.kind == 2) : Bool) = false := by rw [hkind]; rfl
  have hk3 : ((o.kind == 3) : Bool) = false := by rw [hkind]; rfl
  have hk4 : ((o.kind == 4) : Bool) = false := by rw [hkind]; rfl
  have hk5 : ((o.kind == 5) : Bool) = false := by rw [hkind]; rfl
  have hk6 : ((o.kind == 6) : Bool) = false := by rw [hkind]; rfl
  have hk7 : ((o.kind == 7) : Bool) = false := by rw [hkind]; rfl
  have hk8 : ((o.kind == 8) : Bool) = false := by rw [hkind]; rfl
  have hk9 : ((o.kind == 9) : Bool) = false := by rw [hkind]; rfl
  have hk10 : ((o.kind == 10) : Bool) = true := by rw [hkind]; rfl
  have HN := Lib.hid hn
  have hn0 : ¬ o.cnt < 1 := by omega
  clear h hpsb hk ho hol
  go_enter Try.func26, Try.ntmps26
  go_wp2_with (first
    | (refine wpList_load_mid rfl 33 _ rfl _ _ (by rfl) (o.key.1.map bv) _ (op_c (HH.out.op _ (by (repeat (first | exact Below.refl _ _ | refine bg_al ?_ | refine bg_gr ?_ | refine bg_drn ?_ | refine bg_dr ?_ | assumption))))).2.1 Try.underlying33 rfl (hash_info o.key) ?_)
    | (go_at_call 40; refine (HH.out.at_ _ (by (repeat (first | exact Below.refl _ _ | refine bg_al ?_ | refine bg_gr ?_ | refine bg_drn ?_ | refine bg_dr ?_ | assumption)))).mono ?_; rintro en w1 ⟨rfl, hb1⟩; obtain ⟨D1, rfl⟩ := gr_of_below hb1; clear hb1)
    | (refine wpList_load_mid rfl 39 _ rfl _ _ (by rfl) (regC o.cnt o.tag) _ (op_c (HH.out.op _ (by (repeat (first | exact Below.refl _ _ | refine bg_al ?_ | refine bg_gr ?_ | refine bg_drn ?_ | refine bg_dr ?_ | assumption))))).2.2.2.2.2 Try.underlying39 rfl (by rw [reg_len]; exact regInfo) ?_)
    | (go_at_call 17; refine (setreg_bad_p (HH.out.inv.below (by (repeat (first | exact Below.refl _ _ | refine bg_al ?_ | refine bg_gr ?_ | refine bg_drn ?_ | refine bg_dr ?_ | assumption)))).dev (by have := HN.out; omega)).mono ?_; rintro en w2 ⟨rfl, ha⟩; have HI := Lib.hid ((HH.out.inv.below (by (repeat (first | exact Below.refl _ _ | refine bg_al ?_ | refine bg_gr ?_ | refine bg_drn ?_ | refine bg_dr ?_ | assumption)))).call ha); have HOP := Lib.hid (op_after HH.out (by (repeat (first | exact Below.refl _ _ | refine bg_al ?_ | refine bg_gr ?_ | refine bg_drn ?_ | refine bg_dr ?_ | assumption))) ha); obtain ⟨b0, -, b33, b34, b35, -⟩ := op_c HOP.out; obtain ⟨kA2, kc2, dA2, dc2, lA2, lc2, p0, p1, p2, p3, p4, p5, plt, psb⟩ := HI.out.cells; have PSB := Lib.hid psb; clear ha psb))
  go_ret
  exact ⟨rfl, _, _, _, _, HI.out.below (by (repeat (first | exact Below.refl _ _ | refine bg_al ?_ | refine bg_gr ?_ | refine bg_drn ?_ | refine bg_dr ?_ | assumption)))⟩

set_option maxHeartbeats 1000000 in
set_option maxRecDepth 8000 in
theorem lstore_old {w0 w : World} {D : Nat} {F : Nat → Prop} {P : Nat} {s : Hn} {keys : List H32} {datas : List Bs} {k : Nat} (h : LInv w0 w D F P s keys datas k) (hk : k < 1000000) (o : Opv) (ho : SB w0 o.da o.data) (hol : o.data.length ≤ 1048576) (hkind : o.kind = 10) (hn : 1 ≤ o.cnt) (hn2 : o.cnt ≤ 1099511627776) (hold : o.cnt ≤ s.cnt) :
    Calls Try.prog 26 #[.pointer (some ⟨P, 0, none⟩), .pointer (some ⟨D, 0, none⟩), .agg (opC o).toArray] w fun e w' => e = .returned (.bool true) ∧ LDone w0 w' D P (k + 1) := by
  have HH := Lib.hid (head_mk o h)
  obtain ⟨kA, kc, dA, dc, lA, lc, hc0, hc1, hc2, hc3, hc4, hc5, hPlt, hpsb⟩ := h.cells
  have HK := Lib.hid hk
  have HO := Lib.hid ho
  have HOL := Lib.hid hol
  have hr1 : s.room ≤ 1048576 := by have := h.bd.room; omega
  have hlg : (s.log.length : Int) ≤ 1048576 := by have := h.bd.room; have := h.bd.log; omega
  have hol2 : (o.data.length : Int) ≤ 1048576 := by omega
  have hk1 : ((o.kind == 1) : Bool) = false := by rw [hkind]; rfl
  have hk2 : ((o.kind == 2) : Bool) = false := by rw [hkind]; rfl
  have hk3 : ((o.kind == 3) : Bool) = false := by rw [hkind]; rfl
  have hk4 : ((o.kind == 4) : Bool) = false := by rw [hkind]; rfl
  have hk5 : ((o.kind == 5) : Bool) = false := by rw [hkind]; rfl
  have hk6 : ((o.kind == 6) : Bool) = false := by rw [hkind]; rfl
  have hk7 : ((o.kind == 7) : Bool) = false := by rw [hkind]; rfl
  have hk8 : ((o.kind == 8) : Bool) = false := by rw [hkind]; rfl
  have hk9 : ((o.kind == 9) : Bool) = false := by rw [hkind]; rfl
  have hk10 : ((o.kind == 10) : Bool) = true := by rw [hkind]; rfl
  have HN := Lib.hid hn
  have HN2 := Lib.hid hn2
  have HOLD := Lib.hid hold
  have hn0 : ¬ o.cnt < 1 := by omega
  have hn3 : ¬ 1099511627776 < o.cnt := by omega
  clear h hpsb hk ho hol
  go_enter Try.func26, Try.ntmps26
  go_wp2_with (first
    | (refine wpList_load_mid rfl 33 _ rfl _ _ (by rfl) (o.key.1.map bv) _ (op_c (HH.out.op _ (by (repeat (first | exact Below.refl _ _ | refine bg_al ?_ | refine bg_gr ?_ | refine bg_drn ?_ | refine bg_dr ?_ | assumption))))).2.1 Try.underlying33 rfl (hash_info o.key) ?_)
    | (go_at_call 40; refine (HH.out.at_ _ (by (repeat (first | exact Below.refl _ _ | refine bg_al ?_ | refine bg_gr ?_ | refine bg_drn ?_ | refine bg_dr ?_ | assumption)))).mono ?_; rintro en w1 ⟨rfl, hb1⟩; obtain ⟨D1, rfl⟩ := gr_of_below hb1; clear hb1)
    | (refine wpList_load_mid rfl 39 _ rfl _ _ (by rfl) (regC o.cnt o.tag) _ (op_c (HH.out.op _ (by (repeat (first | exact Below.refl _ _ | refine bg_al ?_ | refine bg_gr ?_ | refine bg_drn ?_ | refine bg_dr ?_ | assumption))))).2.2.2.2.2 Try.underlying39 rfl (by rw [reg_len]; exact regInfo) ?_)
    | (go_at_call 17; refine (setreg_old_p (HH.out.inv.below (by (repeat (first | exact Below.refl _ _ | refine bg_al ?_ | refine bg_gr ?_ | refine bg_drn ?_ | refine bg_dr ?_ | assumption)))).dev (by have := HK.out; omega) HN.out HN2.out HOLD.out).mono ?_; rintro en w2 ⟨rfl, ha⟩; have HI := Lib.hid ((HH.out.inv.below (by (repeat (first | exact Below.refl _ _ | refine bg_al ?_ | refine bg_gr ?_ | refine bg_drn ?_ | refine bg_dr ?_ | assumption)))).call ha); have HOP := Lib.hid (op_after HH.out (by (repeat (first | exact Below.refl _ _ | refine bg_al ?_ | refine bg_gr ?_ | refine bg_drn ?_ | refine bg_dr ?_ | assumption))) ha); obtain ⟨b0, -, b33, b34, b35, -⟩ := op_c HOP.out; obtain ⟨kA2, kc2, dA2, dc2, lA2, lc2, p0, p1, p2, p3, p4, p5, plt, psb⟩ := HI.out.cells; have PSB := Lib.hid psb; clear ha psb))
  go_quiet (fail)
  go_wp2_with fail
  go_ret
  exact ⟨rfl, _, _, _, _, HI.out.below (by (repeat (first | exact Below.refl _ _ | refine bg_al ?_ | refine bg_gr ?_ | refine bg_drn ?_ | refine bg_dr ?_ | assumption)))⟩

set_option maxHeartbeats 1000000 in
set_option maxRecDepth 8000 in
theorem lput_long {w0 w : World} {D : Nat} {F : Nat → Prop} {P : Nat} {s : Hn} {keys : List H32} {datas : List Bs} {k : Nat} (h : LInv w0 w D F P s keys datas k) (hk : k < 1000000) (o : Opv) (ho : SB w0 o.da o.data) (hol : o.data.length ≤ 1048576) (hkind : o.kind = 2) (hl : 1024 < o.data.length) :
    Calls Try.prog 26 #[.pointer (some ⟨P, 0, none⟩), .pointer (some ⟨D, 0, none⟩), .agg (opC o).toArray] w fun e w' => e = .returned (.bool true) ∧ LDone w0 w' D P (k + 1) := by
  have HH := Lib.hid (head_mk o h)
  obtain ⟨kA, kc, dA, dc, lA, lc, hc0, hc1, hc2, hc3, hc4, hc5, hPlt, hpsb⟩ := h.cells
  have HK := Lib.hid hk
  have HO := Lib.hid ho
  have HOL := Lib.hid hol
  have hr1 : s.room ≤ 1048576 := by have := h.bd.room; omega
  have hlg : (s.log.length : Int) ≤ 1048576 := by have := h.bd.room; have := h.bd.log; omega
  have hol2 : (o.data.length : Int) ≤ 1048576 := by omega
  have hk1 : ((o.kind == 1) : Bool) = false := by rw [hkind]; rfl
  have hk2 : ((o.kind == 2) : Bool) = true := by rw [hkind]; rfl
  have HL := Lib.hid hl
  have hl2 : (1024 : Int) < (o.data.length : Int) := by omega
  clear h hpsb hk ho hol
  go_enter Try.func26, Try.ntmps26
  go_wp2_with (first
    | (refine wpList_load_mid rfl 33 _ rfl _ _ (by rfl) (o.key.1.map bv) _ (op_c (HH.out.op _ (by (repeat (first | exact Below.refl _ _ | refine bg_al ?_ | refine bg_gr ?_ | refine bg_drn ?_ | refine bg_dr ?_ | assumption))))).2.1 Try.underlying33 rfl (hash_info o.key) ?_)
    | (go_at_call 40; refine (HH.out.at_ _ (by (repeat (first | exact Below.refl _ _ | refine bg_al ?_ | refine bg_gr ?_ | refine bg_drn ?_ | refine bg_dr ?_ | assumption)))).mono ?_; rintro en w1 ⟨rfl, hb1⟩; obtain ⟨D1, rfl⟩ := gr_of_below hb1; clear hb1)
    | (go_at_call 12; refine (put_long_p (q := o.key) (l := o.data) (HH.out.inv.below (by (repeat (first | exact Below.refl _ _ | refine bg_al ?_ | refine bg_gr ?_ | refine bg_drn ?_ | refine bg_dr ?_ | assumption)))).dev (HO.out.below (show Below w0.heap.size w0 _ from HH.out.inv.bel.trans ((show Below w.heap.size w _ by (repeat (first | exact Below.refl _ _ | refine bg_al ?_ | refine bg_gr ?_ | refine bg_drn ?_ | refine bg_dr ?_ | assumption))).mono HH.out.inv.bel.size))) HL.out).mono ?_; rintro en w2 ⟨rfl, ha⟩; have HI := Lib.hid ((HH.out.inv.below (by (repeat (first | exact Below.refl _ _ | refine bg_al ?_ | refine bg_gr ?_ | refine bg_drn ?_ | refine bg_dr ?_ | assumption)))).call ha); have HOP := Lib.hid (op_after HH.out (by (repeat (first | exact Below.refl _ _ | refine bg_al ?_ | refine bg_gr ?_ | refine bg_drn ?_ | refine bg_dr ?_ | assumption))) ha); obtain ⟨b0, -, b33, b34, b35, -⟩ := op_c HOP.out; obtain ⟨kA2, kc2, dA2, dc2, lA2, lc2, p0, p1, p2, p3, p4, p5, plt, psb⟩ := HI.out.cells; have PSB := Lib.hid psb; clear ha psb))
  go_ret
  exact ⟨rfl, _, _, _, _, HI.out.below (by (repeat (first | exact Below.refl _ _ | refine bg_al ?_ | refine bg_gr ?_ | refine bg_drn ?_ | refine bg_dr ?_ | assumption)))⟩

set_option maxHeartbeats 1000000 in
set_option maxRecDepth 8000 in
theorem lput_full {w0 w : World} {D : Nat} {F : Nat → Prop} {P : Nat} {s : Hn} {keys : List H32} {datas : List Bs} {k : Nat} (h : LInv w0 w D F P s keys datas k) (hk : k < 1000000) (o : Opv) (ho : SB w0 o.da o.data) (hol : o.data.length ≤ 1048576) (hkind : o.kind = 2) (hl : o.data.length ≤ 1024) (hq : o.key ∉ keys) (hfull : s.slots ≤ (keys.length : Int)) :
    Calls Try.prog 26 #[.pointer (some ⟨P, 0, none⟩), .pointer (some ⟨D, 0, none⟩), .agg (opC o).toArray] w fun e w' => e = .returned (.bool true) ∧ LDone w0 w' D P (k + 1) := by
  have HH := Lib.hid (head_mk o h)
  obtain ⟨kA, kc, dA, dc, lA, lc, hc0, hc1, hc2, hc3, hc4, hc5, hPlt, hpsb⟩ := h.cells
  have HK := Lib.hid hk
  have HO := Lib.hid ho
  have HOL := Lib.hid hol
  have hr1 : s.room ≤ 1048576 := by have := h.bd.room; omega
  have hlg : (s.log.length : Int) ≤ 1048576 := by have := h.bd.room; have := h.bd.log; omega
  have hol2 : (o.data.length : Int) ≤ 1048576 := by omega
  have hk1 : ((o.kind == 1) : Bool) = false := by rw [hkind]; rfl
  have hk2 : ((o.kind == 2) : Bool) = true := by rw [hkind]; rfl
  have hat : atI keys o.key = -1 := by unfold atI; rw [if_neg hq]
  have HQ := Lib.hid (h.kd.no _ hq)
  have HL := Lib.hid hl
  have HF := Lib.hid (show s.slots ≤ (s.n : Int) by have := h.kd.n; omega)
  have hl2 : ¬ (1024 : Int) < (o.data.length : Int) := by omega
  clear h hpsb hk ho hol
  go_enter Try.func26, Try.ntmps26
  go_wp2_with (first
    | (refine wpList_load_mid rfl 33 _ rfl _ _ (by rfl) (o.key.1.map bv) _ (op_c (HH.out.op _ (by (repeat (first | exact Below.refl _ _ | refine bg_al ?_ | refine bg_gr ?_ | refine bg_drn ?_ | refine bg_dr ?_ | assumption))))).2.1 Try.underlying33 rfl (hash_info o.key) ?_)
    | (go_at_call 40; refine (HH.out.at_ _ (by (repeat (first | exact Below.refl _ _ | refine bg_al ?_ | refine bg_gr ?_ | refine bg_drn ?_ | refine bg_dr ?_ | assumption)))).mono ?_; rw [hat]; rintro en w1 ⟨rfl, hb1⟩; obtain ⟨D1, rfl⟩ := gr_of_below hb1; clear hb1)
    | (go_at_call 12; refine (put_full_p (q := o.key) (l := o.data) (HH.out.inv.below (by (repeat (first | exact Below.refl _ _ | refine bg_al ?_ | refine bg_gr ?_ | refine bg_drn ?_ | refine bg_dr ?_ | assumption)))).dev (by have := HK.out; omega) (HO.out.below (show Below w0.heap.size w0 _ from HH.out.inv.bel.trans ((show Below w.heap.size w _ by (repeat (first | exact Below.refl _ _ | refine bg_al ?_ | refine bg_gr ?_ | refine bg_drn ?_ | refine bg_dr ?_ | assumption))).mono HH.out.inv.bel.size))) HL.out HQ.out HF.out).mono ?_; rintro en w2 ⟨rfl, ha⟩; have HI := Lib.hid ((HH.out.inv.below (by (repeat (first | exact Below.refl _ _ | refine bg_al ?_ | refine bg_gr ?_ | refine bg_drn ?_ | refine bg_dr ?_ | assumption)))).call ha); have HOP := Lib.hid (op_after HH.out (by (repeat (first | exact Below.refl _ _ | refine bg_al ?_ | refine bg_gr ?_ | refine bg_drn ?_ | refine bg_dr ?_ | assumption))) ha); obtain ⟨b0, -, b33, b34, b35, -⟩ := op_c HOP.out; obtain ⟨kA2, kc2, dA2, dc2, lA2, lc2, p0, p1, p2, p3, p4, p5, plt, psb⟩ := HI.out.cells; have PSB := Lib.hid psb; clear ha psb))
  go_quiet (fail)
  go_wp2_with fail
  go_ret
  exact ⟨rfl, _, _, _, _, HI.out.below (by (repeat (first | exact Below.refl _ _ | refine bg_al ?_ | refine bg_gr ?_ | refine bg_drn ?_ | refine bg_dr ?_ | assumption)))⟩
end Go.Proofs.Ytcbglojjbgenlaa
