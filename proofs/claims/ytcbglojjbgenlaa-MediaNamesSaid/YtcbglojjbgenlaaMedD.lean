/- A nil device, further. -/
import Derived.Test.YtcbglojjbgenlaaMedC
import Derived.Laws.CopyRow
namespace Go.Proofs.Ytcbglojjbgenlaa
open Go.RowKit
set_option linter.unusedSimpArgs false
set_option linter.unusedVariables false
attribute [local go_sem] size_gr cell_gr frozen_gr setCell_gr gr_drew gr_drewN lt_k lt_kc le_k le_kc sub_kc nil29 nil28 nil49 mkmap
attribute [local go_sem ↓] Go.wp_at_zero Go.wp_at_succ

def zeroDeed : List Value := [.int .i64 0] ++ (zero32.1.map bv ++ ([.slice none 0 0, .slice none 0 0, .int .i64 0, .int .i64 0] ++ zero32.1.map bv))
theorem deedInfo : ((Try.prog).info? 86).map (·.size) = some 69 := by kernel_rfl
theorem zeroDeed_is : Try.zeroCells86 = zeroDeed.toArray := by kernel_rfl
theorem zd_size : (Try.zeroCells86).size = 69 := by rw [zeroDeed_is]; rfl
/-- cells that a store takes -/
def OneC (c : Array Value) : Prop := c.all (·.oneCell') = true
theorem zd_one : OneC Try.zeroCells86 := by rw [zeroDeed_is]; unfold OneC; kernel_rfl
/-- a whole deed into the block made last -/
theorem st_deed (w : World) (g : Nat) (c c' : Array Value) (hg : w.heap.size = g) (ho : c.size = 69) (ho' : c'.size = 69) (h1 : OneC c') :
    (storeCells ⟨g, 0, none⟩ c'.toList 0).run Try.prog (w.alloc (.cells c 86)) = .ok () (w.alloc (.cells c' 86)) := by
  subst hg
  exact run_storeCells_new w _ c c' (by rw [deedInfo, ho']) (by omega) h1
/-- a whole deed out of the block made last -/
theorem ld_deed (w : World) (g : Nat) (c : Array Value) (hg : w.heap.size = g) (ho : c.size = 69) :
    (loadCellsFrom ⟨g, 0, none⟩ 0 69 #[]).run Try.prog (w.alloc (.cells c 86)) = .ok c (w.alloc (.cells c 86)) := by
  subst hg
  exact run_loadCellsFrom_new w _ c 69 ho
attribute [local go_sem] zd_size st_deed ld_deed

theorem loadVar_blk {W : World} {g : Nat} {c : Array Value} {t t' : TypeId} {fr : Nat × Nat} {d : TypeDesc} (hg : W.heap[g]? = some (.cells c t' fr)) (hu : (Try.prog).underlying t = some d) (hd : d.isRow = true) (hi : ((Try.prog).info? t).map (·.size) = some c.size) :
    (loadVar t ⟨g, 0, none⟩).run Try.prog W = .ok (.agg c) W := by
  have := run_loadVar_mid (P := Try.prog) W g 0 t c.toList d (fun j v hv => by rw [Nat.zero_add, cell_of_row W g j c t' fr hg]; simpa using hv) hu hd (by simpa using hi)
  simpa using this
theorem loadVar_deed {W : World} {g : Nat} {c : Array Value} (hg : W.heap[g]? = some (.cells c 86 (0, 0))) (hc : c.size = 69) : (loadVar 86 ⟨g, 0, none⟩).run Try.prog W = .ok (.agg c) W :=
  loadVar_blk hg Try.underlying86 rfl (by rw [hc]; exact deedInfo)
theorem results_run {W : World} {g : Nat} {c : Array Value} {tmps : Array Value} (h4 : tmps.getD 4 undef = .pointer (some ⟨g, 0, none⟩)) (hg : W.heap[g]? = some (.cells c 86 (0, 0))) (hc : c.size = 69) :
    (results Try.f32 tmps).run Try.prog W = .ok (.tuple #[.agg c, tmps.getD 5 undef]) W := by
  have h := loadVar_deed hg hc
  have ha : (asAddr (tmps.getD 4 undef)).run Try.prog W = .ok ⟨g, 0, none⟩ W := by rw [h4]; rfl
  rw [Array.getD_eq_getD_getElem?] at ha
  simp [results, Try.results32, ha, h, Sem.run_bind, Sem.run_pure]

theorem nil_run (cs : Array Value) (hcs : cs.size = 69) (h1 : OneC cs) (w : World) : Calls Try.prog 32 #[.pointer none, .agg cs] w fun e w' => e = .returned (.tuple #[.agg Try.zeroCells86, .int .i64 1]) ∧ Below w.heap.size w w' := by
  have hz1 := zd_one
  go_enter Try.func32, Try.ntmps32
  go_wp2_with (go_at_call 34; refine (nil_closed _).mono ?_; rintro e w' ⟨rfl, rfl⟩)
  refine bodyPost_ret (results_run rfl (by rw [show w.heap.size + 1 = (w.alloc (.cells cs 86)).heap.size from by simp, heap_alloc_last]) zd_size) rfl ?_
  exact ⟨rfl, by (repeat (first | exact Below.refl _ _ | refine bg_al ?_ | refine bg_gr ?_ | refine bg_drn ?_ | refine bg_dr ?_ | assumption))⟩

/-- a deed -/
def deedC (kind : Int) (key : H32) (data keys : Value) (n : Int) (cnt : Int) (tag : H32) : List Value := [.int .i64 kind] ++ (key.1.map bv ++ ([data, keys, .int .i64 n, .int .i64 cnt] ++ tag.1.map bv))

theorem hashInfo : ((Try.prog).info? 33).map (·.size) = some 32 := by kernel_rfl
theorem q_len (q : H32) : (q.1.map bv).length = 32 := by simp [q.2]
theorem hash_info (q : H32) : ((Try.prog).info? 33).map (·.size) = some (q.1.map bv).length := by rw [q_len]; exact hashInfo
theorem range_blk {W : World} {g : Nat} {c : Array Value} {t : TypeId} {fr : Nat × Nat} (hg : W.heap[g]? = some (.cells c t fr)) (o : Nat) (cs : List Value) (h : ∀ j v, cs[j]? = some v → c[o + j]? = some v) : W.rangeAt g o cs := fun j v hv => by
  rw [cell_of_row W g (o + j) c t fr hg]
  exact h j v hv
/-- the key that was boxed last -/
theorem range_hash (w : World) (g : Nat) (q : H32) (hg : w.heap.size = g) : (w.alloc (.cells (q.1.map bv).toArray 33)).rangeAt g 0 (q.1.map bv) := by
  subst hg
  exact range_blk (heap_alloc_last w _) 0 _ (fun j v hv => by simpa using hv)

theorem fold_set (l : List Value) : ∀ (o k : Nat) (a : Array Value), o + k + l.length ≤ a.size →
    (List.foldl (fun cs x => cs.setIfInBounds (o + x.2) x.1) a (l.zipIdx k)) = (a.toList.take (o + k) ++ l ++ a.toList.drop (o + k + l.length)).toArray := by
  induction l with
  | nil => intro o k a h; simp
  | cons v r ih =>
    intro o k a h
    simp only [List.zipIdx_cons, List.foldl_cons]
    rw [ih o (k + 1) _ (by simp at h ⊢; omega)]
    congr 1
    have e := list_seg_step a.toList (o + k) v r (by simp at h ⊢; omega)
    simpa [Array.toList_setIfInBounds, Nat.add_assoc] using e
theorem deed_zero (kind : Int) (q : H32) : List.foldl (fun cs x => cs.setIfInBounds (1 + x.2) x.1) ((Try.zeroCells86).setIfInBounds 0 (.int .i64 kind)) (q.1.map bv).zipIdx = (deedC kind q (.slice none 0 0) (.slice none 0 0) 0 0 zero32).toArray := by
  rw [fold_set _ 1 0 _ (by simp [zd_size, q.2])]
  rw [q_len, zeroDeed_is]
  rfl
theorem deed_plain (kind : Int) : (Try.zeroCells86).setIfInBounds 0 (.int .i64 kind) = (deedC kind zero32 (.slice none 0 0) (.slice none 0 0) 0 0 zero32).toArray := by
  rw [zeroDeed_is]
  rfl
theorem bv_oneC (l : List UInt8) : ∀ v ∈ l.map bv, v.oneCell' = true := bv_one l
theorem deed_one (kind : Int) (q : H32) (a b : Value) (n c : Int) (t : H32) (ha : a.oneCell' = true) (hb : b.oneCell' = true) : OneC (deedC kind q a b n c t).toArray := by
  unfold OneC
  refine all_oneCell_toArray fun v hv => ?_
  simp only [deedC, List.mem_append, List.mem_cons, List.mem_singleton, List.not_mem_nil, or_false] at hv
  rcases hv with rfl | hv | (rfl | rfl | rfl | rfl) | hv
  · rfl
  · exact bv_one _ v hv
  · exact ha
  · exact hb
  · rfl
  · rfl
  · exact bv_one _ v hv
theorem deed_len (kind : Int) (q : H32) (a b : Value) (n c : Int) (t : H32) : (deedC kind q a b n c t).length = 69 := by simp [deedC, q.2, t.2]
theorem deed_sz (kind : Int) (q : H32) (a b : Value) (n c : Int) (t : H32) : (deedC kind q a b n c t).toArray.size = 69 := by simp [deedC, q.2, t.2]
theorem zd_33 : (Try.zeroCells86)[33]? = some (.slice none 0 0) := by kernel_rfl
theorem zd_34' : (Try.zeroCells86)[34] = (.slice none 0 0) := by kernel_rfl
theorem deed_data (kind : Int) (v : Value) : ((Try.zeroCells86).setIfInBounds 0 (.int .i64 kind)).setIfInBounds 33 v = (deedC kind zero32 v (.slice none 0 0) 0 0 zero32).toArray := by
  rw [zeroDeed_is]
  rfl
theorem deed_num (kind n : Int) : ((Try.zeroCells86).setIfInBounds 0 (.int .i64 kind)).setIfInBounds 35 (.int .i64 n) = (deedC kind zero32 (.slice none 0 0) (.slice none 0 0) n 0 zero32).toArray := by
  rw [zeroDeed_is]
  rfl
theorem zd_34 : (Try.zeroCells86)[34]? = some (.slice none 0 0) := by kernel_rfl

theorem nil_get (q : H32) (w : World) : Calls Try.prog 8 #[.pointer none, hv q] w fun e w' => ∃ A c, e = .returned (.tuple #[.slice A 0 c, .int .i64 1]) ∧ Below w.heap.size w w' := by
  have hz1 := zd_one
  have hz2 := zd_33
  unfold hv
  go_enter Try.func8, Try.ntmps8
  go_wp2_with (first
    | (refine wpList_load_mid rfl 33 _ rfl _ _ (by rfl) (q.1.map bv) _ (range_hash _ _ q rfl) Try.underlying33 rfl (hash_info q) ?_)
    | (go_at_call 32; rw [deed_zero]; refine (nil_run _ (deed_sz ..) (deed_one _ _ _ _ _ _ _ rfl rfl) _).mono ?_; rintro en w1 ⟨rfl, hb1⟩; obtain ⟨D1, rfl⟩ := gr_of_below hb1; clear hb1)
    | (go_at_call 33; refine (bclone_any _ [] _ (SB.nil _) (by simp)).mono ?_; rintro en w2 ⟨A2, c2, rfl, ho2, hb2⟩; obtain ⟨D2, rfl⟩ := gr_of_below hb2; clear hb2))
  go_ret2
  exact ⟨_, _, rfl, by (repeat (first | exact Below.refl _ _ | refine bg_al ?_ | refine bg_gr ?_ | refine bg_drn ?_ | refine bg_dr ?_ | assumption))⟩
theorem nil_read (w : World) : Calls Try.prog 10 #[.pointer none] w fun e w' => ∃ A c, e = .returned (.tuple #[.slice A 0 c, .int .i64 1]) ∧ Below w.heap.size w w' := by
  have hz1 := zd_one
  have hz2 := zd_33
  go_enter Try.func10, Try.ntmps10
  go_wp2_with (first
    | (go_at_call 32; rw [deed_plain]; refine (nil_run _ (deed_sz ..) (deed_one _ _ _ _ _ _ _ rfl rfl) _).mono ?_; rintro en w1 ⟨rfl, hb1⟩; obtain ⟨D1, rfl⟩ := gr_of_below hb1; clear hb1)
    | (go_at_call 33; refine (bclone_any _ [] _ (SB.nil _) (by simp)).mono ?_; rintro en w2 ⟨A2, c2, rfl, ho2, hb2⟩; obtain ⟨D2, rfl⟩ := gr_of_below hb2; clear hb2))
  go_ret2
  exact ⟨_, _, rfl, by (repeat (first | exact Below.refl _ _ | refine bg_al ?_ | refine bg_gr ?_ | refine bg_drn ?_ | refine bg_dr ?_ | assumption))⟩
theorem nil_list (w : World) : Calls Try.prog 9 #[.pointer none] w fun e w' => e = .returned (.tuple #[.slice none 0 0, .int .i64 1]) ∧ Below w.heap.size w w' := by
  have hz1 := zd_one
  have hz2 := zd_34
  have hz3 := zd_34'
  go_enter Try.func9, Try.ntmps9
  go_wp2_with (first
    | (go_at_call 32; rw [deed_plain]; refine (nil_run _ (deed_sz ..) (deed_one _ _ _ _ _ _ _ rfl rfl) _).mono ?_; rintro en w1 ⟨rfl, hb1⟩; obtain ⟨D1, rfl⟩ := gr_of_below hb1; clear hb1))
  go_ret2
  exact ⟨by simp [hz3], by (repeat (first | exact Below.refl _ _ | refine bg_al ?_ | refine bg_gr ?_ | refine bg_drn ?_ | refine bg_dr ?_ | assumption))⟩
theorem nil_put (q : H32) (v : Value) (w : World) : Calls Try.prog 12 #[.pointer none, hv q, v] w fun e w' => e = .returned (.int .i64 1) ∧ Below w.heap.size w w' := by
  unfold hv
  go_enter Try.func12, Try.ntmps12
  go_wp2_with (go_at_call 34; refine (nil_closed _).mono ?_; rintro e w' ⟨rfl, rfl⟩)
  go_ret
  exact ⟨rfl, by (repeat (first | exact Below.refl _ _ | refine bg_al ?_ | refine bg_gr ?_ | refine bg_drn ?_ | refine bg_dr ?_ | assumption))⟩
theorem nil_delete (q : H32) (w : World) : Calls Try.prog 13 #[.pointer none, hv q] w fun e w' => e = .returned (.int .i64 1) ∧ Below w.heap.size w w' := by
  have hz1 := zd_one
  unfold hv
  go_enter Try.func13, Try.ntmps13
  go_wp2_with (first
    | (refine wpList_load_mid rfl 33 _ rfl _ _ (by rfl) (q.1.map bv) _ (range_hash _ _ q rfl) Try.underlying33 rfl (hash_info q) ?_)
    | (go_at_call 32; rw [deed_zero]; refine (nil_run _ (deed_sz ..) (deed_one _ _ _ _ _ _ _ rfl rfl) _).mono ?_; rintro en w1 ⟨rfl, hb1⟩; obtain ⟨D1, rfl⟩ := gr_of_below hb1; clear hb1))
  go_ret
  exact ⟨rfl, by (repeat (first | exact Below.refl _ _ | refine bg_al ?_ | refine bg_gr ?_ | refine bg_drn ?_ | refine bg_dr ?_ | assumption))⟩
theorem nil_append (v : Value) (l : List UInt8) (w : World) (h : SB w v l) (hl : l.length ≤ 1099511627776) : Calls Try.prog 14 #[.pointer none, v] w fun e w' => e = .returned (.int .i64 1) ∧ Below w.heap.size w w' := by
  have hz1 := zd_one
  have HS := Lib.hid h
  have HL := Lib.hid hl
  clear h hl
  go_enter Try.func14, Try.ntmps14
  go_wp2_with (first
    | (go_at_call 32; rw [deed_data]; refine (nil_run _ (deed_sz ..) (deed_one _ _ _ _ _ _ _ rfl rfl) _).mono ?_; rintro en w1 ⟨rfl, hb1⟩; obtain ⟨D1, rfl⟩ := gr_of_below hb1; clear hb1)
    | (go_at_call 33; refine (bclone_any _ l _ (HS.out.below (by (repeat (first | exact Below.refl _ _ | refine bg_al ?_ | refine bg_gr ?_ | refine bg_drn ?_ | refine bg_dr ?_ | assumption)))) HL.out).mono ?_; rintro en w2 ⟨A2, c2, rfl, ho2, hb2⟩; obtain ⟨D2, rfl⟩ := gr_of_below hb2; clear hb2))
  go_ret
  exact ⟨rfl, by (repeat (first | exact Below.refl _ _ | refine bg_al ?_ | refine bg_gr ?_ | refine bg_drn ?_ | refine bg_dr ?_ | assumption))⟩
theorem nil_trim (n : Int) (w : World) : Calls Try.prog 15 #[.pointer none, .int .i64 n] w fun e w' => e = .returned (.int .i64 1) ∧ Below w.heap.size w w' := by
  have hz1 := zd_one
  go_enter Try.func15, Try.ntmps15
  go_wp2_with (first
    | (go_at_call 32; rw [deed_num]; refine (nil_run _ (deed_sz ..) (deed_one _ _ _ _ _ _ _ rfl rfl) _).mono ?_; rintro en w1 ⟨rfl, hb1⟩; obtain ⟨D1, rfl⟩ := gr_of_below hb1; clear hb1))
  go_ret
  exact ⟨rfl, by (repeat (first | exact Below.refl _ _ | refine bg_al ?_ | refine bg_gr ?_ | refine bg_drn ?_ | refine bg_dr ?_ | assumption))⟩
theorem nil_cut (n : Int) (w : World) : Calls Try.prog 16 #[.pointer none, .int .i64 n] w fun e w' => e = .returned (.int .i64 1) ∧ Below w.heap.size w w' := by
  have hz1 := zd_one
  go_enter Try.func16, Try.ntmps16
  go_wp2_with (first
    | (go_at_call 32; rw [deed_num]; refine (nil_run _ (deed_sz ..) (deed_one _ _ _ _ _ _ _ rfl rfl) _).mono ?_; rintro en w1 ⟨rfl, hb1⟩; obtain ⟨D1, rfl⟩ := gr_of_below hb1; clear hb1))
  go_ret
  exact ⟨rfl, by (repeat (first | exact Below.refl _ _ | refine bg_al ?_ | refine bg_gr ?_ | refine bg_drn ?_ | refine bg_dr ?_ | assumption))⟩
/-- a whole struct into its block -/
theorem wl_store_row {ops : Array Oper} {rest : List Oper} {op : Oper} {a : Act} {w : World} {Q : Exit → Act → World → Prop} (hgd : op.guard = none) (ty : TypeId) (x y : Operand) (ho : op.op = .store ty x y)
    (g : Nat) (c c' : Array Value) (hx : a.eval x = .pointer (some ⟨g, 0, none⟩)) (hy : a.eval y = .agg c') (hg : w.heap[g]? = some (.cells c ty (0, 0))) (hi : ((Try.prog).info? ty).map (·.size) = some c'.size) (hs : c.size = c'.size) (h1 : OneC c')
    (h : wpList Try.prog ops Q rest (a.put op.dst undef) (w.setRow g c')) : wpList Try.prog ops Q (op :: rest) a w :=
  wpList_plain hgd fun _ hK => by
    unfold Oper.wp execOp
    simp only [ho, hx, hy, Instr.storeAt, Instr.sureAddr, Sem.run_bind, Sem.run_pure, Result.andThen_ok, run_storeVar_row w g ty ty c c' hg hi hs h1]
    exact hK _ _ h
def regC (c : Int) (t : H32) : List Value := .int .i64 c :: t.1.map bv
theorem reg_len (c : Int) (t : H32) : (regC c t).length = 33 := by simp [regC, t.2]
theorem regInfo : ((Try.prog).info? 39).map (·.size) = some 33 := by kernel_rfl
theorem reg_one (c : Int) (t : H32) : OneC (regC c t).toArray := by
  unfold OneC
  refine all_oneCell_toArray fun v hv => ?_
  rcases List.mem_cons.1 hv with rfl | hv
  · rfl
  · exact bv_one _ v hv
theorem range_zreg (W : World) (g : Nat) (hg : W.heap.size = g) : (W.alloc (.cells Try.zeroCells86 86)).rangeAt g 36 (regC 0 zero32) := by
  subst hg
  refine range_blk (heap_alloc_last W _) 36 _ (fun j v hj => ?_)
  rw [zeroDeed_is]
  have e : zeroDeed = ([.int .i64 0] ++ (zero32.1.map bv ++ [.slice none 0 0, .slice none 0 0, .int .i64 0])) ++ regC 0 zero32 := by simp [zeroDeed, regC]
  rw [List.getElem?_toArray, e, List.getElem?_append_right (by simp [zero32.2]), ← hj]
  congr 1
  simp [zero32.2]
theorem setRow_chg {S : Nat → Prop} {a w : World} (h : Chg S a w) {g : Nat} (hg : S g ∨ a.heap.size ≤ g) (c : Array Value) : Chg S a (w.setRow g c) :=
  ⟨h.os, h.tape, h.output, by have := h.size; simpa [World.setRow] using this, fun k hk hs => by rw [setRow_other w g k c (fun e => by subst e; rcases hg with hg | hg; exact hs hg; omega)]; exact h.block k hk hs⟩
theorem chg_below {w w' : World} {S : Nat → Prop} (h : Chg S w w') (hs : ∀ k, k < w.heap.size → ¬ S k) : Below w.heap.size w w' := ⟨h.os, h.tape, h.output, h.size, fun k hk => h.block k hk (hs k hk)⟩
theorem results_cell1 {fn : Func} {t : TypeId} {s : Tmp} (hr : fn.results = #[.cell s t]) {tmps : Array Value} {W : World} {g : Nat} {v : Value} (h4 : tmps.getD s undef = .pointer (some ⟨g, 0, none⟩)) (h : (loadVar t ⟨g, 0, none⟩).run Try.prog W = .ok v W) :
    (results fn tmps).run Try.prog W = .ok v W := by
  have ha : (asAddr (tmps.getD s undef)).run Try.prog W = .ok ⟨g, 0, none⟩ W := by rw [h4]; rfl
  rw [Array.getD_eq_getD_getElem?] at ha
  simp [results, hr, ha, h, Sem.run_bind, Sem.run_pure]
theorem results_cellT {fn : Func} {t : TypeId} {s u : Tmp} (hr : fn.results = #[.cell s t, .tmp u]) {tmps : Array Value} {W : World} {g : Nat} {v : Value} (h4 : tmps.getD s undef = .pointer (some ⟨g, 0, none⟩)) (h : (loadVar t ⟨g, 0, none⟩).run Try.prog W = .ok v W) :
    (results fn tmps).run Try.prog W = .ok (.tuple #[v, tmps.getD u undef]) W := by
  have ha : (asAddr (tmps.getD s undef)).run Try.prog W = .ok ⟨g, 0, none⟩ W := by rw [h4]; rfl
  rw [Array.getD_eq_getD_getElem?] at ha
  simp [results, hr, ha, h, Sem.run_bind, Sem.run_pure]

theorem st_whole {W : World} {g : Nat} {c : Array Value} {l : List Value} {t : TypeId} (hg : W.heap[g]? = some (.cells c t (0, 0))) (hc : c.size = l.length) (h1 : OneC l.toArray) :
    (storeCells ⟨g, 0, none⟩ l 0).run Try.prog W = .ok () (W.setRow g l.toArray) := by
  have h := run_storeCells_at Try.prog g 0 t l 0 c W hg (by omega) (fun v hv => (Array.all_eq_true_iff_forall_mem.1 h1) v (by simpa using hv))
  have hd : List.drop l.length c.toList = [] := List.drop_eq_nil_of_le (by simp [hc])
  rw [h]
  simp [hd]
theorem st_reg (w : World) (D1 : Dl) (c c3 : Array Value) (hc : c.size = 33) (t3 : TypeId) : (storeCells ⟨w.heap.size, 0, none⟩ (regC 0 zero32) 0).run Try.prog (((w.alloc (.cells c 39)).gr D1).alloc (.cells c3 t3)) = .ok () ((((w.alloc (.cells c 39)).gr D1).alloc (.cells c3 t3)).setRow w.heap.size (regC 0 zero32).toArray) :=
  st_whole (c := c) (t := 39) (by rw [Below.heap_alloc _ _ _ (by simp [size_gr]; omega), (below_gr _ D1).block _ (by simp), heap_alloc_last]) (by rw [hc, reg_len]) (reg_one 0 zero32)
attribute [local go_sem] st_reg

theorem nil_reg (w : World) : Calls Try.prog 11 #[.pointer none] w fun e w' => e = .returned (.tuple #[.agg (regC 0 zero32).toArray, .int .i64 1]) ∧ Below w.heap.size w w' := by
  have hz1 := zd_one
  have hrl := reg_len 0 zero32
  go_enter Try.func11, Try.ntmps11
  go_wp2_with (first
    | (go_at_call 32; rw [deed_plain]; refine (nil_run _ (deed_sz ..) (deed_one _ _ _ _ _ _ _ rfl rfl) _).mono ?_; rintro en w1 ⟨rfl, hb1⟩; obtain ⟨D1, rfl⟩ := gr_of_below hb1; clear hb1)
    | (refine wpList_load_mid rfl 39 (.tmp 12) rfl _ _ (by rfl) (regC 0 zero32) _ (range_zreg _ _ (by simp [size_gr])) Try.underlying39 rfl (by rw [reg_len]; exact regInfo) ?_))
  refine bodyPost_ret (results_cellT Try.results11 rfl (loadVar_blk (setRow_heap _ _ _ _ _ (0, 0) (by rw [Below.heap_alloc _ _ _ (by simp [size_gr]; omega), (below_gr _ D1).block _ (by simp), heap_alloc_last])) Try.underlying39 rfl (by rw [List.size_toArray, reg_len]; exact regInfo))) rfl ?_
  refine ⟨rfl, chg_below (S := fun _ => False) (setRow_chg (Below.chg _ (by (repeat (first | exact Below.refl _ _ | refine bg_al ?_ | refine bg_gr ?_ | refine bg_drn ?_ | refine bg_dr ?_ | assumption)))) (.inr (Nat.le_refl _)) _) (fun _ _ h => h)⟩

/-- what a device keeps -/
def medC (s r : Int) (b l : Value) (c : Int) (t : H32) : List Value := [.int .i64 s, .int .i64 r, b, l, .int .i64 c] ++ t.1.map bv
theorem med_len (s r : Int) (b l : Value) (c : Int) (t : H32) : (medC s r b l c t).length = 37 := by simp [medC, t.2]
theorem med_one (s r : Int) (b l : Value) (c : Int) (t : H32) (hb : b.oneCell' = true) (hl : l.oneCell' = true) : OneC (medC s r b l c t).toArray := by
  unfold OneC
  refine all_oneCell_toArray fun v hv => ?_
  simp only [medC, List.mem_append, List.mem_cons, List.not_mem_nil, or_false] at hv
  rcases hv with (rfl | rfl | rfl | rfl | rfl) | hv
  · rfl
  · rfl
  · exact hb
  · exact hl
  · rfl
  · exact bv_one _ v hv
theorem medInfo : ((Try.prog).info? 54).map (·.size) = some 37 := by kernel_rfl
theorem st_med (W : World) (g : Nat) (c : Array Value) (s r : Int) (b l : Value) (n : Int) (t : H32) (hg : W.heap.size = g) (hc : c.size = 37) (hb : b.oneCell' = true) (hl : l.oneCell' = true) :
    (storeCells ⟨g, 0, none⟩ (medC s r b l n t) 0).run Try.prog (W.alloc (.cells c 54)) = .ok () (W.alloc (.cells (medC s r b l n t).toArray 54)) := by
  subst hg
  have := run_storeCells_new (P := Try.prog) W 54 c (medC s r b l n t).toArray (by rw [List.size_toArray, med_len]; exact medInfo) (by simp [med_len, hc]) (med_one s r b l n t hb hl)
  simpa using this
theorem st_zmed (W : World) (g : Nat) (c : Array Value) (hg : W.heap.size = g) (hc : c.size = 37) :
    (storeCells ⟨g, 0, none⟩ (medC 0 0 (.slice none 0 0) (.slice none 0 0) 0 zero32) 0).run Try.prog (W.alloc (.cells c 54)) = .ok () (W.alloc (.cells (medC 0 0 (.slice none 0 0) (.slice none 0 0) 0 zero32).toArray 54)) := st_med W g c _ _ _ _ _ _ hg hc rfl rfl
attribute [local go_sem] st_zmed
def zmed : Array Value := (medC 0 0 (.slice none 0 0) (.slice none 0 0) 0 zero32).toArray
theorem zmed_is : zmed = (medC 0 0 (.slice none 0 0) (.slice none 0 0) 0 zero32).toArray := rfl
theorem wl_zmed {ops : Array Oper} {rest : List Oper} {op : Oper} {a : Act} {w : World} {Q : Exit → Act → World → Prop} (hgd : op.guard = none) (ho : op.op = .build 54 #[])
    (h : wpList Try.prog ops Q rest (a.put op.dst (.agg (medC 0 0 (.slice none 0 0) (.slice none 0 0) 0 zero32).toArray)) w) : wpList Try.prog ops Q (op :: rest) a w :=
  wpList_plain hgd fun _ hK => by
    unfold Oper.wp execOp
    simp [ho, execOp, go_sem]
    exact hK _ _ h
theorem nil_media (w : World) : Calls Try.prog 22 #[.pointer none] w fun e w' => e = .returned (.agg (medC 0 0 (.slice none 0 0) (.slice none 0 0) 0 zero32).toArray) ∧ Below w.heap.size w w' := by
  have hml := med_len 0 0 (.slice none 0 0) (.slice none 0 0) 0 zero32
  go_enter Try.func22, Try.ntmps22
  go_wp2_with (refine wl_zmed rfl rfl ?_)
  refine bodyPost_ret (results_cell1 Try.results22 rfl (loadVar_blk (c := (medC 0 0 (.slice none 0 0) (.slice none 0 0) 0 zero32).toArray) (heap_alloc_last _ _) Try.underlying54 rfl (by rw [List.size_toArray, med_len]; exact medInfo))) rfl ?_
  exact ⟨rfl, by (repeat (first | exact Below.refl _ _ | refine bg_al ?_ | refine bg_gr ?_ | refine bg_drn ?_ | refine bg_dr ?_ | assumption))⟩
end Go.Proofs.Ytcbglojjbgenlaa
