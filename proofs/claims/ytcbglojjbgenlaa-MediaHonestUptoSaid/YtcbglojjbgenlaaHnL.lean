/- A register held against itself. does of the plain thing: Reg. The two orders of bytes are one. does of the plain thing: List. A region that draws its order: loads taken ahead, where the cells that they read hold until the last store. -/
import Derived.Test.YtcbglojjbgenlaaHnI
import Derived.Test.YtcbglojjbgenlaaHnG
import Derived.OrdersHeld
namespace Go.Proofs.Ytcbglojjbgenlaa
open Go.RowKit Go.MapL Go.ChangeMaps Go.MapKept
set_option linter.unusedSimpArgs false
set_option linter.unusedVariables false

theorem hash_lits (d : Nat) (q : H32) : ∃ ls, (Try.prog).keyLits (d + 2) 33 (q.1.map bv) = some ls := by
  obtain ⟨ys, hys⟩ := mapM_all (fun i => (Try.prog).keyLits (d + 1) 5 (((q.1.map bv).drop (i * (Try.prog).cellsOf 5)).take ((Try.prog).cellsOf 5))) (List.range 32) (fun i hi => by
    have hi' : i < q.1.length := by rw [q.2]; exact List.mem_range.1 hi
    refine ⟨[.int .u8 ((q.1[i].toNat : Nat) : Int)], ?_⟩
    rw [byteCells, Nat.mul_one, ← List.map_drop, ← List.map_take, List.drop_eq_getElem_cons hi', List.take_succ_cons, List.take_zero, List.map_cons, List.map_nil]
    exact keyLits_byte _ _)
  refine ⟨ys.flatten, ?_⟩
  unfold Program.keyLits
  simp only [Try.underlying33, hashCells, List.length_map, q.2, if_true]
  rw [hys]
  rfl
theorem int_lits (d : Nat) (c : Int) (h : -9223372036854775808 ≤ c ∧ c ≤ 9223372036854775807) : (Try.prog).keyLits (d + 1) 2 [.int .i64 c] = some [.int .i64 c] := by
  have hw : (Lit.int .i64 c).wf = true := by
    simp only [Lit.wf, IntKind.min, IntKind.max, IntKind.signed, IntKind.bits, Bool.and_eq_true, decide_eq_true_eq, if_true]
    omega
  unfold Program.keyLits
  simp only [Try.underlying2]
  simp [hw]
theorem regKey : (Try.prog).keyType 39 = true := by kernel_rfl
set_option maxRecDepth 100000 in
theorem reg_key (c : Int) (t : H32) (h : -9223372036854775808 ≤ c ∧ c ≤ 9223372036854775807) : ∃ l, keyOf Try.prog 39 (.agg (regC c t).toArray) = some l := by
  have hc33 : (Try.prog).cellsOf 39 = 33 := by kernel_rfl
  have hci : (Try.prog).cellsOf 2 = 1 := by kernel_rfl
  have hts : (Try.prog).types.size = (Try.prog).types.size - 2 + 2 := by have := hashRow; omega
  have hf : (Value.agg (regC c t).toArray).formed Try.prog 39 = true := by simp [Value.formed, Try.underlying39, hc33, reg_len]
  obtain ⟨ls, hls⟩ := hash_lits (Try.prog.types.size - 2) t
  rw [← hts] at hls
  have hil := int_lits (Try.prog.types.size - 1) c h
  rw [show (Try.prog).types.size - 1 + 1 = (Try.prog).types.size by have := hashRow; omega] at hil
  have hl : ∃ l2, (Try.prog).keyLits (Try.prog.types.size + 1) 39 (regC c t) = some l2 := by
    generalize (Try.prog).types.size = N at hil hls ⊢
    unfold Program.keyLits
    simp only [Try.underlying39, hc33, reg_len, if_true]
    simp [regC, hci, hashCells, hil, hls, List.take_of_length_le, t.2]
  obtain ⟨l2, h2⟩ := hl
  refine ⟨.string (keyBytes l2), ?_⟩
  unfold keyOf
  simp only [Try.underlying39, regKey, hf, Bool.and_true, if_true]
  have hcs : (Value.agg (regC c t).toArray).cells.toList = regC c t := by simp [Value.cells]
  rw [hcs, h2]
  rfl
theorem reg_eql (c : Int) (t : H32) (h : -9223372036854775808 ≤ c ∧ c ≤ 9223372036854775807) (w : World) : (binOp .eql 39 (.agg (regC c t).toArray) (.agg (regC c t).toArray)).run Try.prog w = .ok (.bool true) w := by
  obtain ⟨la, ha⟩ := reg_key c t h
  obtain ⟨r, hr, hi⟩ : ∃ r : Bool, (Op.equal 39 (.agg (regC c t).toArray) (.agg (regC c t).toArray)).run Try.prog w = .ok r w ∧ (r = true ↔ la = la) := by
    refine run_equal_deep w (m := 3) (by decide) regAt ?_ ha ha
    rw [Try.underlying39]
  rw [hi.2 rfl] at hr
  exact (binOp_of_equal hr).1
theorem st_reg1 (W : World) (g : Nat) (c : Int) (t : H32) (cs : Array Value) (hg : W.heap.size = g) (hc : cs.size = 33) :
    (storeCells ⟨g, 0, none⟩ (regC c t) 0).run Try.prog (W.alloc (.cells cs 39)) = .ok () (W.alloc (.cells (regC c t).toArray 39)) := by
  subst hg
  have := run_storeCells_new (P := Try.prog) W 39 cs (regC c t).toArray (by rw [List.size_toArray, reg_len]; exact regInfo) (by simp [hc, reg_len]) (reg_one c t)
  simpa using this
end Go.Proofs.Ytcbglojjbgenlaa
namespace Go.Proofs.Ytcbglojjbgenlaa
open Go.RowKit Go.MapL Go.ChangeMaps Go.MapKept
set_option linter.unusedSimpArgs false
set_option linter.unusedVariables false
attribute [local go_sem] size_gr cell_gr frozen_gr setCell_gr gr_drew gr_drewN lt_k lt_kc le_k le_kc sub_kc nil29 nil28 nil49 mkmap size_setBlock cell_setB opC_len opC_0 opC_33 opC_34 opC_35 opC_0g opC_33g opC_34g opC_35g st_reg1
attribute [local go_sem ↓] Go.wp_at_zero Go.wp_at_succ
attribute [local go_sem high] reg_eql

set_option maxHeartbeats 1000000 in
set_option maxRecDepth 8000 in
theorem lload {w0 w : World} {D : Nat} {F : Nat → Prop} {P : Nat} {s : Hn} {keys : List H32} {datas : List Bs} {k : Nat} (h : LInv w0 w D F P s keys datas k) (hk : k < 1000000) (o : Opv) (ho : SB w0 o.da o.data) (hol : o.data.length ≤ 1048576) (hkind : o.kind = 9)  :
    Calls Try.prog 26 #[.pointer (some ⟨P, 0, none⟩), .pointer (some ⟨D, 0, none⟩), .agg (opC o).toArray] w fun e w' => e = .returned (.bool true) ∧ LDone w0 w' D P (k + 1) := by
  have HH := Lib.hid (head_mk o h)
  obtain ⟨kA, kc, dA, dc, lA, lc, hc0, hc1, hc2, hc3, hc4, hc5, hPlt, hpsb⟩ := h.cells
  have HK := Lib.hid hk
  have HO := Lib.hid ho
  have HOL := Lib.hid hol
  have hr1 : s.room ≤ 1048576 := by have := h.bd.room; omega
  have hlg : (s.log.length : Int) ≤ 1048576 := by have := h.bd.room; have := h.bd.log; omega
  have hol2 : (o.data.length : Int) ≤ 1048576 := by omega
  have hk1 : ((o.kind == 1) : Bool) = false := by rw [hkind]; rfl
  have hk2 : ((o.kind == 2) : Bool) = false := by rw [hkind]; rfl
  have hk3 : ((o.kind == 3) : Bool) = false := by rw [hkind]; rfl
  have hk4 : ((o.kind == 4) : Bool) = false := by rw [hkind]; rfl
  have hk5 : ((o.kind == 5) : Bool) = false := by rw [hkind]; rfl
  have hk6 : ((o.kind == 6) : Bool) = false := by rw [hkind]; rfl
  have hk7 : ((o.kind == 7) : Bool) = false := by rw [hkind]; rfl
  have hk8 : ((o.kind == 8) : Bool) = false := by rw [hkind]; rfl
  have hk9 : ((o.kind == 9) : Bool) = true := by rw [hkind]; rfl
  have hcr : -9223372036854775808 ≤ s.cnt ∧ s.cnt ≤ 9223372036854775807 := by have := h.bd.cnt; omega
  have hrl := reg_len s.cnt s.tag
  clear h hpsb hk ho hol
  go_enter Try.func26, Try.ntmps26
  go_wp2_with (first
    | (refine wpList_load_mid rfl 33 _ rfl _ _ (by rfl) (o.key.1.map bv) _ (op_c (HH.out.op _ (by (repeat (first | exact Below.refl _ _ | refine bg_al ?_ | refine bg_gr ?_ | refine bg_drn ?_ | refine bg_dr ?_ | assumption))))).2.1 Try.underlying33 rfl (hash_info o.key) ?_)
    | (go_at_call 40; refine (HH.out.at_ _ (by (repeat (first | exact Below.refl _ _ | refine bg_al ?_ | refine bg_gr ?_ | refine bg_drn ?_ | refine bg_dr ?_ | assumption)))).mono ?_; rintro en w1 ⟨rfl, hb1⟩; obtain ⟨D1, rfl⟩ := gr_of_below hb1; clear hb1)
    | (go_at_call 11; refine (reg_p (HH.out.inv.below (by (repeat (first | exact Below.refl _ _ | refine bg_al ?_ | refine bg_gr ?_ | refine bg_drn ?_ | refine bg_dr ?_ | assumption)))).dev (by have := HK.out; omega)).mono ?_; rintro en w2 ⟨rfl, ha⟩; have HI := Lib.hid ((HH.out.inv.below (by (repeat (first | exact Below.refl _ _ | refine bg_al ?_ | refine bg_gr ?_ | refine bg_drn ?_ | refine bg_dr ?_ | assumption)))).call ha); have HM := Lib.hid ((HH.out.inv.below (by (repeat (first | exact Below.refl _ _ | refine bg_al ?_ | refine bg_gr ?_ | refine bg_drn ?_ | refine bg_dr ?_ | assumption)))).call2 ha); obtain ⟨kv2, dv2, lA2, lc2, hP2, hsb2, hlc2, hmx2⟩ := HM.out.parts; have HP2 := Lib.hid hP2; clear ha hP2 hsb2))
  refine with_world (fun W3 hW3 => ?_)
  have hr3 : W3.rangeAt w2.heap.size 0 (regC s.cnt s.tag) := by rw [hW3]; exact range_blk (heap_alloc_last _ _) 0 _ (fun j v hj => by simpa using hj)
  have hb3 : Below w2.heap.size w2 W3 := by rw [hW3]; (repeat (first | exact Below.refl _ _ | refine bg_al ?_ | refine bg_gr ?_ | refine bg_drn ?_ | refine bg_dr ?_ | assumption))
  have HR3 := Lib.hid hr3
  have HB3 := Lib.hid hb3
  have HP3 := Lib.hid (pl_bel HP2.out hb3)
  obtain ⟨-, -, -, -, -, q5, qlt⟩ := pl_c HP3.out
  clear hW3 hr3 hb3
  refine wp_region_quiet_lit (by kernel_rfl) (by kernel_rfl) ?_
  repeat (first
    | (refine BigFrame.wpQuiet_want (by rfl) (fun K hK => quiet_load_mid 39 (.tmp 20) rfl _ _ (by rfl) (regC s.cnt s.tag) _ (fun w' hw' => by obtain ⟨nq, rfl⟩ := hw'; exact range_bel HR3.out (by (repeat (first | exact Below.refl _ _ | refine bg_al ?_ | refine bg_gr ?_ | refine bg_drn ?_ | refine bg_dr ?_ | assumption)))) Try.underlying39 rfl (by rw [reg_len]; exact regInfo) (hK _ ?_)))
    | (refine BigFrame.wpQuiet_want (by rfl) (fun K hK => quiet_load_mid 39 (.tmp 348) rfl _ _ (by rfl) (regC s.cnt s.tag) _ (fun w' hw' => by obtain ⟨nq, rfl⟩ := hw'; exact range_bel (pl_reg HP3.out) (by (repeat (first | exact Below.refl _ _ | refine bg_al ?_ | refine bg_gr ?_ | refine bg_drn ?_ | refine bg_dr ?_ | assumption)))) Try.underlying39 rfl (by rw [reg_len]; exact regInfo) (hK _ ?_)))
    | quiet_step (fail))
  refine wpQuiet_nil ?_
  intro _ hw'
  obtain ⟨nq, hw''⟩ := hw'
  subst hw''
  go_wp2_with fail
  go_ret
  exact ⟨rfl, _, _, _, _, HI.out.below (HB3.out.trans ((show Below W3.heap.size W3 _ by (repeat (first | exact Below.refl _ _ | refine bg_al ?_ | refine bg_gr ?_ | refine bg_drn ?_ | refine bg_dr ?_ | assumption))).mono HB3.out.size))⟩
end Go.Proofs.Ytcbglojjbgenlaa
namespace Go.Proofs.Ytcbglojjbgenlaa
open Go.RowKit Go.Lib
set_option linter.unusedSimpArgs false
set_option linter.unusedVariables false

theorem cmpB_cons (x : UInt8) (r s : List UInt8) : cmpB (x :: r) (x :: s) = cmpB r s := by
  have h : common (x :: r) (x :: s) = common r s + 1 := by simp [common]
  unfold cmpB
  rw [h]
  simp
theorem cmpB_cb : ∀ a b : List UInt8, cmpB a b = compareBytes a b
  | [], [] => by simp [cmpB, common, compareBytes]
  | [], _ :: _ => by simp [cmpB, common, compareBytes]
  | _ :: _, [] => by simp [cmpB, common, compareBytes]
  | x :: r, y :: s => by
    by_cases e : x = y
    · subst e
      rw [cmpB_cons, cmpB_cb r s]
      simp [compareBytes]
    · have h : common (x :: r) (y :: s) = 0 := by simp [common, e]
      unfold cmpB
      rw [h]
      simp only [compareBytes]
      have hne : x.toNat ≠ y.toNat := fun h => e (UInt8.toNat_inj.1 h)
      simp only [List.length_cons, Nat.zero_ne_add_one, false_and, and_false, if_false, List.getD_cons_zero]
      rcases Nat.lt_or_gt_of_ne hne with h1 | h1
      · rw [if_pos h1, if_pos (UInt8.lt_iff_toNat_lt.2 h1)]
      · rw [if_neg (by omega), if_neg (fun h => by have := UInt8.lt_iff_toNat_lt.1 h; omega), if_pos (UInt8.lt_iff_toNat_lt.2 h1)]
theorem LInv.at_all {w0 w : World} {D : Nat} {F : Nat → Prop} {P : Nat} {s : Hn} {keys : List H32} {datas : List Bs} {k : Nat} (h : LInv w0 w D F P s keys datas k) (q : H32) : Calls Try.prog 40 #[.pointer (some ⟨P, 0, none⟩), .agg (q.1.map bv).toArray] w fun e w' => e = .returned (.int .i64 (atI keys q)) ∧ Below w.heap.size w w' := by
  obtain ⟨kv, dv, lv, vals, h1, h2, h4, h5, h6, h7, h8, h9⟩ := h.mem
  exact at_is P _ _ kv dv lv _ _ keys q _ w h1 h4 (by have := h.bd.keys; have := h.bd.slots; omega) h.kd.nd
instance : Inhabited Dl := ⟨⟨#[], 0⟩⟩
/-- a region whose operations read alone and whose callees make new memory alone -/
theorem wp_region_quiet_gr {P : Program} {id : Nat} {Q : Exit → Act → World → Prop} {a : Act} {w : World} {l : List Oper} (hm : P.follows .mixedOrders = true) (hB : Region.lexB .any l.toArray = true)
    (h : wpQuiet P l.toArray (fun w' => ∃ D : Dl, w' = w.gr D) (fun a' => ∀ w', (∃ D : Dl, w' = w.gr D) → Q .normal a' w') l a) : (Code.region id l.toArray true).wp P Q a w :=
  wp_region_quiet (C := fun w' => ∃ D : Dl, w' = w.gr D) hm hB (gr_of_below (Below.drew (Below.refl _ _))) (by simpa using h)
theorem gr_more {w : World} {D : Dl} {w' : World} (h : Below (w.gr D).heap.size (w.gr D) w') : ∃ D' : Dl, w' = w.gr D' := gr_of_below ((below_gr w D).trans (h.mono (by rw [size_gr]; omega)))
theorem cmp_lt2 {kl : List H32} (h : kl.Pairwise (fun x y => cmpH x y < 0)) (i : Nat) (hi : i + 1 < kl.length) : cmpB (kl[i]'(by omega)).1 kl[i + 1].1 < 0 := by
  rw [cmpB_cb]
  exact (List.pairwise_iff_getElem.1 h) i (i + 1) (by omega) hi (by omega)
theorem sorted_nodup2 {kl : List H32} (h : kl.Pairwise (fun x y => cmpH x y < 0)) : kl.Nodup := by
  refine h.imp ?_
  rintro a b hab rfl
  have := cb_neg a.1 a.1
  unfold cmpH at hab
  omega
end Go.Proofs.Ytcbglojjbgenlaa
namespace Go.Proofs.Ytcbglojjbgenlaa
open Go.RowKit Go.MapL Go.ChangeMaps Go.MapKept
set_option linter.unusedSimpArgs false
set_option linter.unusedVariables false
attribute [local go_sem] size_gr cell_gr frozen_gr setCell_gr gr_drew gr_drewN lt_k lt_kc le_k le_kc sub_kc nil29 nil28 nil49 mkmap size_setBlock cell_setB opC_len opC_0 opC_33 opC_34 opC_35 opC_0g opC_33g opC_34g opC_35g slice_key
attribute [local go_sem ↓] Go.wp_at_zero Go.wp_at_succ

set_option maxHeartbeats 2000000 in
set_option maxRecDepth 8000 in
theorem llist {w0 w : World} {D : Nat} {F : Nat → Prop} {P : Nat} {s : Hn} {keys : List H32} {datas : List Bs} {k : Nat} (h : LInv w0 w D F P s keys datas k) (hk : k < 1000000) (o : Opv) (ho : SB w0 o.da o.data) (hol : o.data.length ≤ 1048576) (hkind : o.kind = 4) :
    Calls Try.prog 26 #[.pointer (some ⟨P, 0, none⟩), .pointer (some ⟨D, 0, none⟩), .agg (opC o).toArray] w fun e w' => e = .returned (.bool true) ∧ LDone w0 w' D P (k + 1) := by
  have HH := Lib.hid (head_mk o h)
  obtain ⟨kA, kc, dA, dc, lA, lc, hc0, hc1, hc2, hc3, hc4, hc5, hPlt, hpsb⟩ := h.cells
  have HK := Lib.hid hk
  have HN := Lib.hid (show s.n ≤ 1099511627776 by have := h.kd.n; have := h.bd.keys; have := h.bd.slots; omega)
  have hkl : (keys.length : Int) ≤ 8 := by have := h.bd.slots; have := h.bd.keys; omega
  have hk1 : ((o.kind == 1) : Bool) = false := by rw [hkind]; rfl
  have hk2 : ((o.kind == 2) : Bool) = false := by rw [hkind]; rfl
  have hk3 : ((o.kind == 3) : Bool) = false := by rw [hkind]; rfl
  have hk4 : ((o.kind == 4) : Bool) = true := by rw [hkind]; rfl
  have HIFF := Lib.hid h.kd.iff
  have HND := Lib.hid h.kd.nd
  clear h hpsb hk ho hol
  go_enter Try.func26, Try.ntmps26
  go_wp2_with (first
    | (refine wpList_load_mid rfl 33 _ rfl _ _ (by rfl) (o.key.1.map bv) _ (op_c (HH.out.op _ (by (repeat (first | exact Below.refl _ _ | refine bg_al ?_ | refine bg_gr ?_ | refine bg_drn ?_ | refine bg_dr ?_ | assumption))))).2.1 Try.underlying33 rfl (hash_info o.key) ?_)
    | (go_at_call 40; refine (HH.out.at_ _ (by (repeat (first | exact Below.refl _ _ | refine bg_al ?_ | refine bg_gr ?_ | refine bg_drn ?_ | refine bg_dr ?_ | assumption)))).mono ?_; rintro en w1 ⟨rfl, hb1⟩; obtain ⟨D1, rfl⟩ := gr_of_below hb1; clear hb1)
    | (go_at_call 9; refine (list_p (HH.out.inv.below (by (repeat (first | exact Below.refl _ _ | refine bg_al ?_ | refine bg_gr ?_ | refine bg_drn ?_ | refine bg_dr ?_ | assumption)))).dev (by have := HK.out; omega) HN.out).mono ?_; rintro en w2 ⟨nA, nn, nc, kl, rfl, ⟨htk, htp, htm⟩, ha⟩; have HTK := Lib.hid htk; have HTP := Lib.hid htp; have HTM := Lib.hid htm; have HI := Lib.hid ((HH.out.inv.below (by (repeat (first | exact Below.refl _ _ | refine bg_al ?_ | refine bg_gr ?_ | refine bg_drn ?_ | refine bg_dr ?_ | assumption)))).call ha); clear htk htp htm ha))
  obtain ⟨nA', nc', e1⟩ := row_slice HTK.out
  injection e1 with e1 e2 e3
  subst e1 e2 e3
  have hmem : ∀ q, q ∈ kl ↔ q ∈ keys := fun q => by
    have h1 : q ∈ kl ↔ (s.blobs q).isSome = true := HTM.out q
    have h2 := HIFF.out q
    rw [h1, h2]
  have hlen : kl.length = keys.length := same_len (sorted_nodup2 HTP.out) HND.out hmem
  have HMEM := Lib.hid hmem
  have HLEN := Lib.hid hlen
  have hkl2 : (kl.length : Int) ≤ 8 := by omega
  have hncap : (kl.length : Int) ≤ nc := own_cap HTK.out
  clear hmem hlen
  go_loopw [15] (fun i wr => ∃ m : Nat, m ≤ kl.length ∧ i = .int .i64 m ∧ Below w2.heap.size w2 wr) (fun i _ => kl.length - (intOf i).toNat)
  case atStart => exact ⟨0, by omega, rfl, by (repeat (first | exact Below.refl _ _ | refine bg_al ?_ | refine bg_gr ?_ | refine bg_drn ?_ | refine bg_dr ?_ | assumption))⟩
  case round =>
    obtain ⟨m, hm, rfl, hb⟩ := hrel
    have HB := Lib.hid hb
    have HAT := Lib.hid (fun (W : World) (q : H32) (hb : Below w2.heap.size w2 W) => (HI.out.below hb).at_all q)
    clear hb
    by_cases h1 : m < kl.length
    · obtain ⟨gn, nc2, e1, -⟩ := own_form HTK.out (by omega)
      injection e1 with e1 _ e3
      subst e1 e3
      obtain ⟨qm, hqm⟩ : ∃ qm, kl[m] = qm := ⟨_, rfl⟩
      have HR := Lib.hid (show ∀ (W : World) (hb : Below w2.heap.size w2 W), W.rangeAt gn (m * 32) (qm.1.map bv) from fun W hb => by rw [← hqm]; exact range_bel (keys_range HTK.out m h1) hb)
      have hq : qm ∈ keys := (HMEM.out _).1 (hqm ▸ List.getElem_mem h1)
      obtain ⟨jx, hjx⟩ : ∃ jx : Nat, atI keys qm = (jx : Int) := ⟨keys.idxOf qm, by unfold atI; rw [if_pos hq]⟩
      have HJX := Lib.hid hjx
      have hge : ¬ (jx : Int) < 0 := by omega
      have hged : decide ((jx : Int) < 0) = false := by simp
      have h1' : (m : Int) < (kl.length : Int) := by omega
      have hqu := Try.underlying33
      have hql := q_len qm
      have hqi := hash_info qm
      clear hjx hq
      by_cases h0 : m = 0
      · subst h0
        have h0d : decide ((0 : Int) < ((0 : Nat) : Int)) = false := by simp
        clear hqm
        go_wp2_with fail
        refine wp_region_quiet_gr (by kernel_rfl) (by kernel_rfl) ?_
        iterate 4 go_big_quiet_step (fail)
        go_big_quiet_want
        (refine quiet_load_mid 33 (.tmp 203) rfl _ _ (by rfl) (qm.1.map bv) _ (fun w5 hw5 => by obtain ⟨D5, rfl⟩ := hw5; have := HR.out _ (HB.out.trans ((below_gr wr D5).mono HB.out.size)); simpa using this) Try.underlying33 rfl (hash_info qm) ?_)
        simp only [Act.put, List.setIfInBounds_toArray, List.set_cons_zero, List.set_cons_succ]
        go_big_quiet_on
        repeat (go_big_quiet_step (first | (go_at_call 40; refine (HAT.out _ qm (HB.out.trans ((below_gr wr _).mono HB.out.size))).mono ?_; rw [HJX.out]; rintro en w3 ⟨rfl, hb3⟩; exact ⟨rfl, gr_more hb3⟩)))
        refine wpQuiet_nil ?_
        intro wq hwq
        obtain ⟨Dq, rfl⟩ := hwq
        go_wp2_with fail
        exact ⟨⟨1, by omega, rfl, HB.out.trans ((show Below wr.heap.size wr _ by (repeat (first | exact Below.refl _ _ | refine bg_al ?_ | refine bg_gr ?_ | refine bg_drn ?_ | refine bg_dr ?_ | assumption))).mono HB.out.size)⟩, by simp [intOf]; omega⟩
      · obtain ⟨m', rfl⟩ : ∃ m', m = m' + 1 := ⟨m - 1, by omega⟩
        have hlt := cmp_lt2 HTP.out m' h1
        obtain ⟨qp, hqp⟩ : ∃ qp, kl[m']'(by omega) = qp := ⟨kl[m']'(by omega), rfl⟩
        rw [hqm, hqp] at hlt
        have HRp := Lib.hid (show ∀ (W : World) (hb : Below w2.heap.size w2 W), W.rangeAt gn (m' * 32) (qp.1.map bv) from fun W hb => by rw [← hqp]; exact range_bel (keys_range HTK.out m' (by omega)) hb)
        have hcn : ¬ 0 ≤ cmpB qp.1 qm.1 := by omega
        have hcd : decide (0 ≤ cmpB qp.1 qm.1) = false := by simpa using hlt
        have hw1 : IntKind.i64.wrap (((m' + 1 : Nat) : Int) - 1) = (m' : Int) := by
          rw [show ((m' + 1 : Nat) : Int) - 1 = (m' : Int) by omega]
          exact IntWalk.i64_in _ (by omega)
        have h0p : (0 : Int) < ((m' + 1 : Nat) : Int) := by omega
        have h0d : decide ((0 : Int) < ((m' + 1 : Nat) : Int)) = true := by simp
        have hi1 : (0 : Int) ≤ (m' : Int) + 1 := by omega
        have hi2 : (m' : Int) + 1 < (kl.length : Int) := by omega
        have hi3 : (m' : Int) < (kl.length : Int) := by omega
        have hm0 : (0 : Int) ≤ (m' : Int) := by omega
        have hm1 : (m' : Int) < (kl.length : Int) := by omega
        clear hqm hqp
        go_wp2_with fail
        refine wp_region_quiet_gr (by kernel_rfl) (by kernel_rfl) ?_
        iterate 4 go_big_quiet_step (fail)
        go_big_quiet_want
        (refine quiet_load_mid 33 (.tmp 203) rfl _ _ (by rfl) (qm.1.map bv) _ (fun w5 hw5 => by obtain ⟨D5, rfl⟩ := hw5; exact HR.out _ (HB.out.trans ((below_gr wr D5).mono HB.out.size))) Try.underlying33 rfl (hash_info qm) ?_)
        simp only [Act.put, List.setIfInBounds_toArray, List.set_cons_zero, List.set_cons_succ]
        go_big_quiet_on
        repeat (go_big_quiet_step (first | (go_at_call 40; refine (HAT.out _ qm (HB.out.trans ((below_gr wr _).mono HB.out.size))).mono ?_; rw [HJX.out]; rintro en w3 ⟨rfl, hb3⟩; exact ⟨rfl, gr_more hb3⟩) | (go_at_call 41; refine (compare_any _ _ qp.1 qm.1 _ (sb_key (HRp.out _ (HB.out.trans ((below_gr wr _).mono HB.out.size)))) (sb_key (HR.out _ (HB.out.trans ((below_gr wr _).mono HB.out.size))))).mono ?_; rintro en w4 ⟨rfl, n4, rfl⟩; exact ⟨rfl, gr_more (bg_drn (Below.refl _ _))⟩)))
        refine wpQuiet_nil ?_
        intro wq hwq
        obtain ⟨Dq, rfl⟩ := hwq
        go_wp2_with fail
        exact ⟨⟨m' + 1 + 1, by omega, by go_num, HB.out.trans ((show Below wr.heap.size wr _ by (repeat (first | exact Below.refl _ _ | refine bg_al ?_ | refine bg_gr ?_ | refine bg_drn ?_ | refine bg_dr ?_ | assumption))).mono HB.out.size)⟩, by simp [intOf]; omega⟩
    · obtain rfl : m = kl.length := by omega
      have h1' : ¬ (kl.length : Int) < (kl.length : Int) := by omega
      obtain ⟨kA2, kc2, dA2, dc2, lA2, lc2, p0, p1, p2, p3, p4, p5, plt, psb⟩ := (HI.out.below HB.out).cells
      have hle : ((kl.length : Int) == (keys.length : Int)) = true := by rw [HLEN.out]; simp
      clear psb
      go_wp2_with fail
      go_ret
      exact ⟨rfl, _, _, _, _, HI.out.below (HB.out.trans ((show Below wr.heap.size wr _ by (repeat (first | exact Below.refl _ _ | refine bg_al ?_ | refine bg_gr ?_ | refine bg_drn ?_ | refine bg_dr ?_ | assumption))).mono HB.out.size))⟩
end Go.Proofs.Ytcbglojjbgenlaa
namespace Go.Proofs.Ytcbglojjbgenlaa
open Go.RowKit
set_option linter.unusedVariables false

section
variable {P : Program} {md : Region.Mode} {ops : Array Oper} {Q : Exit → Act → World → Prop} {S : World → Prop} {x : Nat}

/-- whatever is drawn; and behind each operation but number x the world meets S -/
def HeldBut (P : Program) (md : Region.Mode) (ops : Array Oper) (Q : Exit → Act → World → Prop) (S : World → Prop) (x : Nat) : Nat → Array Bool → Act → World → Prop
  | 0, l, a, w => Region.ready md ops l = [] ∧ Q .normal a w
  | n + 1, l, a, w => (Region.ready md ops l = [] → Q .normal a w) ∧
    ∀ k ∈ Region.ready md ops l, wpOp P ops Q k (fun b v => (k ≠ x → S v) ∧ HeldBut P md ops Q S x n (l.setIfInBounds k true) b v) a w
theorem HeldBut.any : ∀ (n : Nat) (l : Array Bool) (a : Act) (w : World), HeldBut P md ops Q S x n l a w → wpAny P md ops Q n l a w
  | 0, _, _, _, h => h
  | n + 1, _, _, _, h => ⟨h.1, fun k hk => wpOp_mono (fun b v hb => HeldBut.any n _ b v hb.2) (h.2 k hk)⟩
theorem ready_not {i k : Nat} {l : Array Bool} {o : Oper} (hi : i ∈ Region.ready md ops l) (hk : k ∈ Region.ready md ops l) (ho : ops[k]? = some o) : ∀ e ∈ o.after, Region.binds md e = true → e.on ≠ i := fun e he hb eq => by
  obtain ⟨h0, -⟩ := mem_ready.1 hi
  obtain ⟨-, o', ho', hall⟩ := mem_ready.1 hk
  rw [ho] at ho'
  injection ho' with ho'
  subst ho'
  have h1 := hall e he hb
  rw [eq] at h1
  rcases Nat.lt_or_ge i l.size with h' | h'
  · simp [h'] at h0 h1
    rw [h0] at h1
    cases h1
  · simp [Array.getElem?_eq_none h'] at h1
theorem HeldBut.first {i : Nat} {oi : Oper} {v : Value} (hi : ops[i]? = some oi) (hsel : ∀ (j : Nat) (o : Oper) cs b, ops[j]? = some o → o.op ≠ .select cs b)
    (hQ : ∀ c a w, Q (.panic c) (a.put oi.dst v) w → Q (.panic c) a w) (hx : ∃ ox, ops[x]? = some ox ∧ ∃ e ∈ ox.after, Region.binds md e = true ∧ e.on = i) (n : Nat) :
    ∀ (l : Array Bool) (a : Act) (w : World), (∀ j oj, ops[j]? = some oj → j ≠ i → l.getD j true = false → (∀ e ∈ oj.after, Region.binds md e = true → e.on ≠ i) → oi.apart ops oj = true) →
      i ∈ Region.ready md ops l → YieldsIf P ops S oi v a → S w → HeldBut P md ops Q S x n (l.setIfInBounds i true) (a.put oi.dst v) w → HeldBut P md ops Q S x (n + 1) l a w := by
  induction n with
  | zero =>
    intro l a w _ hr hy hS H
    refine ⟨fun h => absurd hr (by rw [h]; exact List.not_mem_nil), fun j hj => ?_⟩
    by_cases hji : j = i
    · subst hji
      exact hy.wpOp hi hS ⟨fun _ => hS, H⟩
    · exact absurd (ready_mono hj hji) (by rw [H.1]; exact List.not_mem_nil)
  | succ n ih =>
    intro l a w hfree hr hy hS H
    refine ⟨fun h => absurd hr (by rw [h]; exact List.not_mem_nil), fun j hj => ?_⟩
    by_cases hji : j = i
    · subst hji
      exact hy.wpOp hi hS ⟨fun _ => hS, H⟩
    · obtain ⟨hjun, oj, hoj, -⟩ := mem_ready.1 hj
      have hnot := ready_not hr hj hoj
      have hjx : j ≠ x := fun e => by
        subst e
        obtain ⟨ox, hox, e, he, hb, hei⟩ := hx
        rw [hoj] at hox
        injection hox with hox
        subst hox
        exact hnot e he hb hei
      refine wpOp_mono ?_ (wpOp_putIf hoj (hfree j oj hoj hji hjun hnot) (fun cs b => hsel i oi cs b hi) (fun cs b => hsel j oj cs b hoj) hQ hy (H.2 j (ready_mono hj hji)))
      rintro a' w' ⟨hy', hS', H'⟩
      refine ⟨hS', ih _ a' w' (fun k ok hk hki hun hno => ?_) (ready_mono hr (Ne.symm hji)) hy' (hS' hjx) ?_⟩
      · refine hfree k ok hk hki ?_ hno
        by_cases hjk : j = k
        · subst hjk
          exact hjun
        · rwa [getD_set_ne true hjk] at hun
      · rwa [Array.setIfInBounds_comm _ _ hji]
/-- number i first -/
theorem HeldBut.take (i : Nat) (oi : Oper) (d : Option Nat) (v : Value) {n : Nat} {l : Array Bool} {a : Act} {w : World} (hi : ops[i]? = some oi) (hd : oi.dst = d) (hs : Region.noSelect ops = true) (hf : Region.free md ops l i = true) (hr : (Region.ready md ops l).contains i = true)
    (hx : ((ops[x]?).map fun o => o.after.any fun e => Region.binds md e && e.on == i) = some true)
    (hQ : ∀ c a w, Q (.panic c) (a.put oi.dst v) w → Q (.panic c) a w) (hw : Region.wanted oi (yielded ops a.tmps) = true) (hy : ∀ w, S w → (execOp a.eval oi).run P w = .ok (.value v) w) (hS : S w)
    (h : HeldBut P md ops Q S x n (l.setIfInBounds i true) (a.put d v) w) : HeldBut P md ops Q S x (n + 1) l a w := by
  subst hd
  refine HeldBut.first hi (Region.noSelect_spec hs) hQ ?_ n l a w (Region.free_spec hi hf) (by simpa using hr) (Or.inl ⟨hw, hy⟩) hS h
  rw [Option.map_eq_some_iff] at hx
  obtain ⟨ox, hox, hany⟩ := hx
  obtain ⟨e, he, hb⟩ := Array.any_eq_true'.1 hany
  simp only [Bool.and_eq_true, beq_iff_eq] at hb
  exact ⟨ox, hox, e, he, hb.1, hb.2⟩
/-- the one that may come up -/
theorem HeldBut.one (i : Nat) (o : Oper) {n : Nat} {l : Array Bool} {a : Act} {w : World} (hr : Region.ready md ops l = [i]) (ho : ops[i]? = some o)
    (h : ∀ K : Act → World → Prop, (∀ b v, (i ≠ x → S v) → HeldBut P md ops Q S x n (l.setIfInBounds i true) b v → K b v) → if Region.wanted o (yielded ops a.tmps) = true then Oper.wp P o a w K Q else K (a.put o.dst undef) w) : HeldBut P md ops Q S x (n + 1) l a w := by
  refine ⟨fun h0 => absurd (hr ▸ h0) (List.cons_ne_nil _ _), fun k hk => ?_⟩
  rw [hr] at hk
  obtain rfl := List.mem_singleton.1 hk
  have h1 := h (fun b v => (k ≠ x → S v) ∧ HeldBut P md ops Q S x n (l.setIfInBounds k true) b v) (fun b v h1 h2 => ⟨h1, h2⟩)
  unfold wpOp
  simp only [ho]
  split
  · next hw =>
    rw [if_pos hw] at h1
    exact Or.inl h1
  · next hw =>
    rw [if_neg hw] at h1
    exact h1
theorem HeldBut.done {l : Array Bool} {a : Act} {w : World} (hr : Region.ready md ops l = []) (h : Q .normal a w) : ∀ n, HeldBut P md ops Q S x n l a w
  | 0 => ⟨hr, h⟩
  | n + 1 => ⟨fun _ => h, fun k hk => by rw [hr] at hk; cases hk⟩
end
/-- cell k of block b is v -/
def HoldC (b k : Nat) (v : Value) (W : World) : Prop := W.cell? ⟨b, k, none⟩ = some v
end Go.Proofs.Ytcbglojjbgenlaa
