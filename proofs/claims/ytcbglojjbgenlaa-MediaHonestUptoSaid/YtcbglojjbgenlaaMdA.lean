/- A nil device, further. Hashes and registers compared; SameMedia of nothing. The device's own maps: set. -/
import Derived.Test.YtcbglojjbgenlaaMapA
import Derived.Laws.CopyRow
import Derived.DeepKeys
namespace Go.Proofs.Ytcbglojjbgenlaa
open Go.RowKit
set_option linter.unusedSimpArgs false
set_option linter.unusedVariables false
attribute [local go_sem] size_gr cell_gr frozen_gr setCell_gr gr_drew gr_drewN lt_k lt_kc le_k le_kc sub_kc nil29 nil28 nil49 mkmap
attribute [local go_sem ↓] Go.wp_at_zero Go.wp_at_succ

def zeroDeed : List Value := [.int .i64 0] ++ (zero32.1.map bv ++ ([.slice none 0 0, .slice none 0 0, .int .i64 0, .int .i64 0] ++ zero32.1.map bv))
theorem deedInfo : ((Try.prog).info? 86).map (·.size) = some 69 := by kernel_rfl
theorem zeroDeed_is : Try.zeroCells86 = zeroDeed.toArray := by kernel_rfl
theorem zd_size : (Try.zeroCells86).size = 69 := by rw [zeroDeed_is]; rfl
/-- cells that a store takes -/
def OneC (c : Array Value) : Prop := c.all (·.oneCell') = true
theorem zd_one : OneC Try.zeroCells86 := by rw [zeroDeed_is]; unfold OneC; kernel_rfl
/-- a whole deed into the block made last -/
theorem st_deed (w : World) (g : Nat) (c c' : Array Value) (hg : w.heap.size = g) (ho : c.size = 69) (ho' : c'.size = 69) (h1 : OneC c') :
    (storeCells ⟨g, 0, none⟩ c'.toList 0).run Try.prog (w.alloc (.cells c 86)) = .ok () (w.alloc (.cells c' 86)) := by
  subst hg
  exact run_storeCells_new w _ c c' (by rw [deedInfo, ho']) (by omega) h1
/-- a whole deed out of the block made last -/
theorem ld_deed (w : World) (g : Nat) (c : Array Value) (hg : w.heap.size = g) (ho : c.size = 69) :
    (loadCellsFrom ⟨g, 0, none⟩ 0 69 #[]).run Try.prog (w.alloc (.cells c 86)) = .ok c (w.alloc (.cells c 86)) := by
  subst hg
  exact run_loadCellsFrom_new w _ c 69 ho
attribute [local go_sem] zd_size st_deed ld_deed

theorem loadVar_blk {W : World} {g : Nat} {c : Array Value} {t t' : TypeId} {fr : Nat × Nat} {d : TypeDesc} (hg : W.heap[g]? = some (.cells c t' fr)) (hu : (Try.prog).underlying t = some d) (hd : d.isRow = true) (hi : ((Try.prog).info? t).map (·.size) = some c.size) :
    (loadVar t ⟨g, 0, none⟩).run Try.prog W = .ok (.agg c) W := by
  have := run_loadVar_mid (P := Try.prog) W g 0 t c.toList d (fun j v hv => by rw [Nat.zero_add, cell_of_row W g j c t' fr hg]; simpa using hv) hu hd (by simpa using hi)
  simpa using this
theorem loadVar_deed {W : World} {g : Nat} {c : Array Value} (hg : W.heap[g]? = some (.cells c 86 (0, 0))) (hc : c.size = 69) : (loadVar 86 ⟨g, 0, none⟩).run Try.prog W = .ok (.agg c) W :=
  loadVar_blk hg Try.underlying86 rfl (by rw [hc]; exact deedInfo)
theorem results_run {W : World} {g : Nat} {c : Array Value} {tmps : Array Value} (h4 : tmps.getD 4 undef = .pointer (some ⟨g, 0, none⟩)) (hg : W.heap[g]? = some (.cells c 86 (0, 0))) (hc : c.size = 69) :
    (results Try.f32 tmps).run Try.prog W = .ok (.tuple #[.agg c, tmps.getD 5 undef]) W := by
  have h := loadVar_deed hg hc
  have ha : (asAddr (tmps.getD 4 undef)).run Try.prog W = .ok ⟨g, 0, none⟩ W := by rw [h4]; rfl
  rw [Array.getD_eq_getD_getElem?] at ha
  simp [results, Try.results32, ha, h, Sem.run_bind, Sem.run_pure]

theorem nil_run (cs : Array Value) (hcs : cs.size = 69) (h1 : OneC cs) (w : World) : Calls Try.prog 32 #[.pointer none, .agg cs] w fun e w' => e = .returned (.tuple #[.agg Try.zeroCells86, .int .i64 1]) ∧ Below w.heap.size w w' := by
  have hz1 := zd_one
  go_enter Try.func32, Try.ntmps32
  go_wp2_with (go_at_call 34; refine (nil_closed _).mono ?_; rintro e w' ⟨rfl, rfl⟩)
  refine bodyPost_ret (results_run rfl (by rw [show w.heap.size + 1 = (w.alloc (.cells cs 86)).heap.size from by simp, heap_alloc_last]) zd_size) rfl ?_
  exact ⟨rfl, by (repeat (first | exact Below.refl _ _ | refine bg_al ?_ | refine bg_gr ?_ | refine bg_drn ?_ | refine bg_dr ?_ | assumption))⟩

/-- a deed -/
def deedC (kind : Int) (key : H32) (data keys : Value) (n : Int) (cnt : Int) (tag : H32) : List Value := [.int .i64 kind] ++ (key.1.map bv ++ ([data, keys, .int .i64 n, .int .i64 cnt] ++ tag.1.map bv))

theorem hashInfo : ((Try.prog).info? 33).map (·.size) = some 32 := by kernel_rfl
theorem q_len (q : H32) : (q.1.map bv).length = 32 := by simp [q.2]
theorem hash_info (q : H32) : ((Try.prog).info? 33).map (·.size) = some (q.1.map bv).length := by rw [q_len]; exact hashInfo
theorem range_blk {W : World} {g : Nat} {c : Array Value} {t : TypeId} {fr : Nat × Nat} (hg : W.heap[g]? = some (.cells c t fr)) (o : Nat) (cs : List Value) (h : ∀ j v, cs[j]? = some v → c[o + j]? = some v) : W.rangeAt g o cs := fun j v hv => by
  rw [cell_of_row W g (o + j) c t fr hg]
  exact h j v hv
/-- the key that was boxed last -/
theorem range_hash (w : World) (g : Nat) (q : H32) (hg : w.heap.size = g) : (w.alloc (.cells (q.1.map bv).toArray 33)).rangeAt g 0 (q.1.map bv) := by
  subst hg
  exact range_blk (heap_alloc_last w _) 0 _ (fun j v hv => by simpa using hv)

theorem fold_set (l : List Value) : ∀ (o k : Nat) (a : Array Value), o + k + l.length ≤ a.size →
    (List.foldl (fun cs x => cs.setIfInBounds (o + x.2) x.1) a (l.zipIdx k)) = (a.toList.take (o + k) ++ l ++ a.toList.drop (o + k + l.length)).toArray := by
  induction l with
  | nil => intro o k a h; simp
  | cons v r ih =>
    intro o k a h
    simp only [List.zipIdx_cons, List.foldl_cons]
    rw [ih o (k + 1) _ (by simp at h ⊢; omega)]
    congr 1
    have e := list_seg_step a.toList (o + k) v r (by simp at h ⊢; omega)
    simpa [Array.toList_setIfInBounds, Nat.add_assoc] using e
theorem deed_zero (kind : Int) (q : H32) : List.foldl (fun cs x => cs.setIfInBounds (1 + x.2) x.1) ((Try.zeroCells86).setIfInBounds 0 (.int .i64 kind)) (q.1.map bv).zipIdx = (deedC kind q (.slice none 0 0) (.slice none 0 0) 0 0 zero32).toArray := by
  rw [fold_set _ 1 0 _ (by simp [zd_size, q.2])]
  rw [q_len, zeroDeed_is]
  rfl
theorem deed_plain (kind : Int) : (Try.zeroCells86).setIfInBounds 0 (.int .i64 kind) = (deedC kind zero32 (.slice none 0 0) (.slice none 0 0) 0 0 zero32).toArray := by
  rw [zeroDeed_is]
  rfl
theorem bv_oneC (l : List UInt8) : ∀ v ∈ l.map bv, v.oneCell' = true := bv_one l
theorem deed_one (kind : Int) (q : H32) (a b : Value) (n c : Int) (t : H32) (ha : a.oneCell' = true) (hb : b.oneCell' = true) : OneC (deedC kind q a b n c t).toArray := by
  unfold OneC
  refine all_oneCell_toArray fun v hv => ?_
  simp only [deedC, List.mem_append, List.mem_cons, List.mem_singleton, List.not_mem_nil, or_false] at hv
  rcases hv with rfl | hv | (rfl | rfl | rfl | rfl) | hv
  · rfl
  · exact bv_one _ v hv
  · exact ha
  · exact hb
  · rfl
  · rfl
  · exact bv_one _ v hv
theorem deed_len (kind : Int) (q : H32) (a b : Value) (n c : Int) (t : H32) : (deedC kind q a b n c t).length = 69 := by simp [deedC, q.2, t.2]
theorem deed_sz (kind : Int) (q : H32) (a b : Value) (n c : Int) (t : H32) : (deedC kind q a b n c t).toArray.size = 69 := by simp [deedC, q.2, t.2]
theorem zd_33 : (Try.zeroCells86)[33]? = some (.slice none 0 0) := by kernel_rfl
theorem zd_34' : (Try.zeroCells86)[34] = (.slice none 0 0) := by kernel_rfl
theorem deed_data (kind : Int) (v : Value) : ((Try.zeroCells86).setIfInBounds 0 (.int .i64 kind)).setIfInBounds 33 v = (deedC kind zero32 v (.slice none 0 0) 0 0 zero32).toArray := by
  rw [zeroDeed_is]
  rfl
theorem deed_num (kind n : Int) : ((Try.zeroCells86).setIfInBounds 0 (.int .i64 kind)).setIfInBounds 35 (.int .i64 n) = (deedC kind zero32 (.slice none 0 0) (.slice none 0 0) n 0 zero32).toArray := by
  rw [zeroDeed_is]
  rfl
theorem zd_34 : (Try.zeroCells86)[34]? = some (.slice none 0 0) := by kernel_rfl

theorem nil_get (q : H32) (w : World) : Calls Try.prog 8 #[.pointer none, hv q] w fun e w' => ∃ A c, e = .returned (.tuple #[.slice A 0 c, .int .i64 1]) ∧ Below w.heap.size w w' := by
  have hz1 := zd_one
  have hz2 := zd_33
  unfold hv
  go_enter Try.func8, Try.ntmps8
  go_wp2_with (first
    | (refine wpList_load_mid rfl 33 _ rfl _ _ (by rfl) (q.1.map bv) _ (range_hash _ _ q rfl) Try.underlying33 rfl (hash_info q) ?_)
    | (go_at_call 32; rw [deed_zero]; refine (nil_run _ (deed_sz ..) (deed_one _ _ _ _ _ _ _ rfl rfl) _).mono ?_; rintro en w1 ⟨rfl, hb1⟩; obtain ⟨D1, rfl⟩ := gr_of_below hb1; clear hb1)
    | (go_at_call 33; refine (bclone_any _ [] _ (SB.nil _) (by simp)).mono ?_; rintro en w2 ⟨A2, c2, rfl, ho2, hb2⟩; obtain ⟨D2, rfl⟩ := gr_of_below hb2; clear hb2))
  go_ret2
  exact ⟨_, _, rfl, by (repeat (first | exact Below.refl _ _ | refine bg_al ?_ | refine bg_gr ?_ | refine bg_drn ?_ | refine bg_dr ?_ | assumption))⟩
theorem nil_read (w : World) : Calls Try.prog 10 #[.pointer none] w fun e w' => ∃ A c, e = .returned (.tuple #[.slice A 0 c, .int .i64 1]) ∧ Below w.heap.size w w' := by
  have hz1 := zd_one
  have hz2 := zd_33
  go_enter Try.func10, Try.ntmps10
  go_wp2_with (first
    | (go_at_call 32; rw [deed_plain]; refine (nil_run _ (deed_sz ..) (deed_one _ _ _ _ _ _ _ rfl rfl) _).mono ?_; rintro en w1 ⟨rfl, hb1⟩; obtain ⟨D1, rfl⟩ := gr_of_below hb1; clear hb1)
    | (go_at_call 33; refine (bclone_any _ [] _ (SB.nil _) (by simp)).mono ?_; rintro en w2 ⟨A2, c2, rfl, ho2, hb2⟩; obtain ⟨D2, rfl⟩ := gr_of_below hb2; clear hb2))
  go_ret2
  exact ⟨_, _, rfl, by (repeat (first | exact Below.refl _ _ | refine bg_al ?_ | refine bg_gr ?_ | refine bg_drn ?_ | refine bg_dr ?_ | assumption))⟩
theorem nil_list (w : World) : Calls Try.prog 9 #[.pointer none] w fun e w' => e = .returned (.tuple #[.slice none 0 0, .int .i64 1]) ∧ Below w.heap.size w w' := by
  have hz1 := zd_one
  have hz2 := zd_34
  have hz3 := zd_34'
  go_enter Try.func9, Try.ntmps9
  go_wp2_with (first
    | (go_at_call 32; rw [deed_plain]; refine (nil_run _ (deed_sz ..) (deed_one _ _ _ _ _ _ _ rfl rfl) _).mono ?_; rintro en w1 ⟨rfl, hb1⟩; obtain ⟨D1, rfl⟩ := gr_of_below hb1; clear hb1))
  go_ret2
  exact ⟨by simp [hz3], by (repeat (first | exact Below.refl _ _ | refine bg_al ?_ | refine bg_gr ?_ | refine bg_drn ?_ | refine bg_dr ?_ | assumption))⟩
theorem nil_put (q : H32) (v : Value) (w : World) : Calls Try.prog 12 #[.pointer none, hv q, v] w fun e w' => e = .returned (.int .i64 1) ∧ Below w.heap.size w w' := by
  unfold hv
  go_enter Try.func12, Try.ntmps12
  go_wp2_with (go_at_call 34; refine (nil_closed _).mono ?_; rintro e w' ⟨rfl, rfl⟩)
  go_ret
  exact ⟨rfl, by (repeat (first | exact Below.refl _ _ | refine bg_al ?_ | refine bg_gr ?_ | refine bg_drn ?_ | refine bg_dr ?_ | assumption))⟩
theorem nil_delete (q : H32) (w : World) : Calls Try.prog 13 #[.pointer none, hv q] w fun e w' => e = .returned (.int .i64 1) ∧ Below w.heap.size w w' := by
  have hz1 := zd_one
  unfold hv
  go_enter Try.func13, Try.ntmps13
  go_wp2_with (first
    | (refine wpList_load_mid rfl 33 _ rfl _ _ (by rfl) (q.1.map bv) _ (range_hash _ _ q rfl) Try.underlying33 rfl (hash_info q) ?_)
    | (go_at_call 32; rw [deed_zero]; refine (nil_run _ (deed_sz ..) (deed_one _ _ _ _ _ _ _ rfl rfl) _).mono ?_; rintro en w1 ⟨rfl, hb1⟩; obtain ⟨D1, rfl⟩ := gr_of_below hb1; clear hb1))
  go_ret
  exact ⟨rfl, by (repeat (first | exact Below.refl _ _ | refine bg_al ?_ | refine bg_gr ?_ | refine bg_drn ?_ | refine bg_dr ?_ | assumption))⟩
theorem nil_append (v : Value) (l : List UInt8) (w : World) (h : SB w v l) (hl : l.length ≤ 1099511627776) : Calls Try.prog 14 #[.pointer none, v] w fun e w' => e = .returned (.int .i64 1) ∧ Below w.heap.size w w' := by
  have hz1 := zd_one
  have HS := Lib.hid h
  have HL := Lib.hid hl
  clear h hl
  go_enter Try.func14, Try.ntmps14
  go_wp2_with (first
    | (go_at_call 32; rw [deed_data]; refine (nil_run _ (deed_sz ..) (deed_one _ _ _ _ _ _ _ rfl rfl) _).mono ?_; rintro en w1 ⟨rfl, hb1⟩; obtain ⟨D1, rfl⟩ := gr_of_below hb1; clear hb1)
    | (go_at_call 33; refine (bclone_any _ l _ (HS.out.below (by (repeat (first | exact Below.refl _ _ | refine bg_al ?_ | refine bg_gr ?_ | refine bg_drn ?_ | refine bg_dr ?_ | assumption)))) HL.out).mono ?_; rintro en w2 ⟨A2, c2, rfl, ho2, hb2⟩; obtain ⟨D2, rfl⟩ := gr_of_below hb2; clear hb2))
  go_ret
  exact ⟨rfl, by (repeat (first | exact Below.refl _ _ | refine bg_al ?_ | refine bg_gr ?_ | refine bg_drn ?_ | refine bg_dr ?_ | assumption))⟩
theorem nil_trim (n : Int) (w : World) : Calls Try.prog 15 #[.pointer none, .int .i64 n] w fun e w' => e = .returned (.int .i64 1) ∧ Below w.heap.size w w' := by
  have hz1 := zd_one
  go_enter Try.func15, Try.ntmps15
  go_wp2_with (first
    | (go_at_call 32; rw [deed_num]; refine (nil_run _ (deed_sz ..) (deed_one _ _ _ _ _ _ _ rfl rfl) _).mono ?_; rintro en w1 ⟨rfl, hb1⟩; obtain ⟨D1, rfl⟩ := gr_of_below hb1; clear hb1))
  go_ret
  exact ⟨rfl, by (repeat (first | exact Below.refl _ _ | refine bg_al ?_ | refine bg_gr ?_ | refine bg_drn ?_ | refine bg_dr ?_ | assumption))⟩
theorem nil_cut (n : Int) (w : World) : Calls Try.prog 16 #[.pointer none, .int .i64 n] w fun e w' => e = .returned (.int .i64 1) ∧ Below w.heap.size w w' := by
  have hz1 := zd_one
  go_enter Try.func16, Try.ntmps16
  go_wp2_with (first
    | (go_at_call 32; rw [deed_num]; refine (nil_run _ (deed_sz ..) (deed_one _ _ _ _ _ _ _ rfl rfl) _).mono ?_; rintro en w1 ⟨rfl, hb1⟩; obtain ⟨D1, rfl⟩ := gr_of_below hb1; clear hb1))
  go_ret
  exact ⟨rfl, by (repeat (first | exact Below.refl _ _ | refine bg_al ?_ | refine bg_gr ?_ | refine bg_drn ?_ | refine bg_dr ?_ | assumption))⟩
/-- a whole struct into its block -/
theorem wl_store_row {ops : Array Oper} {rest : List Oper} {op : Oper} {a : Act} {w : World} {Q : Exit → Act → World → Prop} (hgd : op.guard = none) (ty : TypeId) (x y : Operand) (ho : op.op = .store ty x y)
    (g : Nat) (c c' : Array Value) (hx : a.eval x = .pointer (some ⟨g, 0, none⟩)) (hy : a.eval y = .agg c') (hg : w.heap[g]? = some (.cells c ty (0, 0))) (hi : ((Try.prog).info? ty).map (·.size) = some c'.size) (hs : c.size = c'.size) (h1 : OneC c')
    (h : wpList Try.prog ops Q rest (a.put op.dst undef) (w.setRow g c')) : wpList Try.prog ops Q (op :: rest) a w :=
  wpList_plain hgd fun _ hK => by
    unfold Oper.wp execOp
    simp only [ho, hx, hy, Instr.storeAt, Instr.sureAddr, Sem.run_bind, Sem.run_pure, Result.andThen_ok, run_storeVar_row w g ty ty c c' hg hi hs h1]
    exact hK _ _ h
def regC (c : Int) (t : H32) : List Value := .int .i64 c :: t.1.map bv
theorem reg_len (c : Int) (t : H32) : (regC c t).length = 33 := by simp [regC, t.2]
theorem regInfo : ((Try.prog).info? 39).map (·.size) = some 33 := by kernel_rfl
theorem reg_one (c : Int) (t : H32) : OneC (regC c t).toArray := by
  unfold OneC
  refine all_oneCell_toArray fun v hv => ?_
  rcases List.mem_cons.1 hv with rfl | hv
  · rfl
  · exact bv_one _ v hv
theorem range_zreg (W : World) (g : Nat) (hg : W.heap.size = g) : (W.alloc (.cells Try.zeroCells86 86)).rangeAt g 36 (regC 0 zero32) := by
  subst hg
  refine range_blk (heap_alloc_last W _) 36 _ (fun j v hj => ?_)
  rw [zeroDeed_is]
  have e : zeroDeed = ([.int .i64 0] ++ (zero32.1.map bv ++ [.slice none 0 0, .slice none 0 0, .int .i64 0])) ++ regC 0 zero32 := by simp [zeroDeed, regC]
  rw [List.getElem?_toArray, e, List.getElem?_append_right (by simp [zero32.2]), ← hj]
  congr 1
  simp [zero32.2]
theorem setRow_chg {S : Nat → Prop} {a w : World} (h : Chg S a w) {g : Nat} (hg : S g ∨ a.heap.size ≤ g) (c : Array Value) : Chg S a (w.setRow g c) :=
  ⟨h.os, h.tape, h.output, by have := h.size; simpa [World.setRow] using this, fun k hk hs => by rw [setRow_other w g k c (fun e => by subst e; rcases hg with hg | hg; exact hs hg; omega)]; exact h.block k hk hs⟩
theorem chg_below {w w' : World} {S : Nat → Prop} (h : Chg S w w') (hs : ∀ k, k < w.heap.size → ¬ S k) : Below w.heap.size w w' := ⟨h.os, h.tape, h.output, h.size, fun k hk => h.block k hk (hs k hk)⟩
theorem results_cell1 {fn : Func} {t : TypeId} {s : Tmp} (hr : fn.results = #[.cell s t]) {tmps : Array Value} {W : World} {g : Nat} {v : Value} (h4 : tmps.getD s undef = .pointer (some ⟨g, 0, none⟩)) (h : (loadVar t ⟨g, 0, none⟩).run Try.prog W = .ok v W) :
    (results fn tmps).run Try.prog W = .ok v W := by
  have ha : (asAddr (tmps.getD s undef)).run Try.prog W = .ok ⟨g, 0, none⟩ W := by rw [h4]; rfl
  rw [Array.getD_eq_getD_getElem?] at ha
  simp [results, hr, ha, h, Sem.run_bind, Sem.run_pure]
theorem results_cellT {fn : Func} {t : TypeId} {s u : Tmp} (hr : fn.results = #[.cell s t, .tmp u]) {tmps : Array Value} {W : World} {g : Nat} {v : Value} (h4 : tmps.getD s undef = .pointer (some ⟨g, 0, none⟩)) (h : (loadVar t ⟨g, 0, none⟩).run Try.prog W = .ok v W) :
    (results fn tmps).run Try.prog W = .ok (.tuple #[v, tmps.getD u undef]) W := by
  have ha : (asAddr (tmps.getD s undef)).run Try.prog W = .ok ⟨g, 0, none⟩ W := by rw [h4]; rfl
  rw [Array.getD_eq_getD_getElem?] at ha
  simp [results, hr, ha, h, Sem.run_bind, Sem.run_pure]

theorem st_whole {W : World} {g : Nat} {c : Array Value} {l : List Value} {t : TypeId} (hg : W.heap[g]? = some (.cells c t (0, 0))) (hc : c.size = l.length) (h1 : OneC l.toArray) :
    (storeCells ⟨g, 0, none⟩ l 0).run Try.prog W = .ok () (W.setRow g l.toArray) := by
  have h := run_storeCells_at Try.prog g 0 t l 0 c W hg (by omega) (fun v hv => (Array.all_eq_true_iff_forall_mem.1 h1) v (by simpa using hv))
  have hd : List.drop l.length c.toList = [] := List.drop_eq_nil_of_le (by simp [hc])
  rw [h]
  simp [hd]
theorem st_reg (w : World) (D1 : Dl) (c c3 : Array Value) (hc : c.size = 33) (t3 : TypeId) : (storeCells ⟨w.heap.size, 0, none⟩ (regC 0 zero32) 0).run Try.prog (((w.alloc (.cells c 39)).gr D1).alloc (.cells c3 t3)) = .ok () ((((w.alloc (.cells c 39)).gr D1).alloc (.cells c3 t3)).setRow w.heap.size (regC 0 zero32).toArray) :=
  st_whole (c := c) (t := 39) (by rw [Below.heap_alloc _ _ _ (by simp [size_gr]; omega), (below_gr _ D1).block _ (by simp), heap_alloc_last]) (by rw [hc, reg_len]) (reg_one 0 zero32)
attribute [local go_sem] st_reg

theorem nil_reg (w : World) : Calls Try.prog 11 #[.pointer none] w fun e w' => e = .returned (.tuple #[.agg (regC 0 zero32).toArray, .int .i64 1]) ∧ Below w.heap.size w w' := by
  have hz1 := zd_one
  have hrl := reg_len 0 zero32
  go_enter Try.func11, Try.ntmps11
  go_wp2_with (first
    | (go_at_call 32; rw [deed_plain]; refine (nil_run _ (deed_sz ..) (deed_one _ _ _ _ _ _ _ rfl rfl) _).mono ?_; rintro en w1 ⟨rfl, hb1⟩; obtain ⟨D1, rfl⟩ := gr_of_below hb1; clear hb1)
    | (refine wpList_load_mid rfl 39 (.tmp 12) rfl _ _ (by rfl) (regC 0 zero32) _ (range_zreg _ _ (by simp [size_gr])) Try.underlying39 rfl (by rw [reg_len]; exact regInfo) ?_))
  refine bodyPost_ret (results_cellT Try.results11 rfl (loadVar_blk (setRow_heap _ _ _ _ _ (0, 0) (by rw [Below.heap_alloc _ _ _ (by simp [size_gr]; omega), (below_gr _ D1).block _ (by simp), heap_alloc_last])) Try.underlying39 rfl (by rw [List.size_toArray, reg_len]; exact regInfo))) rfl ?_
  refine ⟨rfl, chg_below (S := fun _ => False) (setRow_chg (Below.chg _ (by (repeat (first | exact Below.refl _ _ | refine bg_al ?_ | refine bg_gr ?_ | refine bg_drn ?_ | refine bg_dr ?_ | assumption)))) (.inr (Nat.le_refl _)) _) (fun _ _ h => h)⟩

/-- what a device keeps -/
def medC (s r : Int) (b l : Value) (c : Int) (t : H32) : List Value := [.int .i64 s, .int .i64 r, b, l, .int .i64 c] ++ t.1.map bv
theorem med_len (s r : Int) (b l : Value) (c : Int) (t : H32) : (medC s r b l c t).length = 37 := by simp [medC, t.2]
theorem med_one (s r : Int) (b l : Value) (c : Int) (t : H32) (hb : b.oneCell' = true) (hl : l.oneCell' = true) : OneC (medC s r b l c t).toArray := by
  unfold OneC
  refine all_oneCell_toArray fun v hv => ?_
  simp only [medC, List.mem_append, List.mem_cons, List.not_mem_nil, or_false] at hv
  rcases hv with (rfl | rfl | rfl | rfl | rfl) | hv
  · rfl
  · rfl
  · exact hb
  · exact hl
  · rfl
  · exact bv_one _ v hv
theorem medInfo : ((Try.prog).info? 54).map (·.size) = some 37 := by kernel_rfl
theorem st_med (W : World) (g : Nat) (c : Array Value) (s r : Int) (b l : Value) (n : Int) (t : H32) (hg : W.heap.size = g) (hc : c.size = 37) (hb : b.oneCell' = true) (hl : l.oneCell' = true) :
    (storeCells ⟨g, 0, none⟩ (medC s r b l n t) 0).run Try.prog (W.alloc (.cells c 54)) = .ok () (W.alloc (.cells (medC s r b l n t).toArray 54)) := by
  subst hg
  have := run_storeCells_new (P := Try.prog) W 54 c (medC s r b l n t).toArray (by rw [List.size_toArray, med_len]; exact medInfo) (by simp [med_len, hc]) (med_one s r b l n t hb hl)
  simpa using this
theorem st_zmed (W : World) (g : Nat) (c : Array Value) (hg : W.heap.size = g) (hc : c.size = 37) :
    (storeCells ⟨g, 0, none⟩ (medC 0 0 (.slice none 0 0) (.slice none 0 0) 0 zero32) 0).run Try.prog (W.alloc (.cells c 54)) = .ok () (W.alloc (.cells (medC 0 0 (.slice none 0 0) (.slice none 0 0) 0 zero32).toArray 54)) := st_med W g c _ _ _ _ _ _ hg hc rfl rfl
attribute [local go_sem] st_zmed
def zmed : Array Value := (medC 0 0 (.slice none 0 0) (.slice none 0 0) 0 zero32).toArray
theorem zmed_is : zmed = (medC 0 0 (.slice none 0 0) (.slice none 0 0) 0 zero32).toArray := rfl
theorem wl_zmed {ops : Array Oper} {rest : List Oper} {op : Oper} {a : Act} {w : World} {Q : Exit → Act → World → Prop} (hgd : op.guard = none) (ho : op.op = .build 54 #[])
    (h : wpList Try.prog ops Q rest (a.put op.dst (.agg (medC 0 0 (.slice none 0 0) (.slice none 0 0) 0 zero32).toArray)) w) : wpList Try.prog ops Q (op :: rest) a w :=
  wpList_plain hgd fun _ hK => by
    unfold Oper.wp execOp
    simp [ho, execOp, go_sem]
    exact hK _ _ h
theorem nil_media (w : World) : Calls Try.prog 22 #[.pointer none] w fun e w' => e = .returned (.agg (medC 0 0 (.slice none 0 0) (.slice none 0 0) 0 zero32).toArray) ∧ Below w.heap.size w w' := by
  have hml := med_len 0 0 (.slice none 0 0) (.slice none 0 0) 0 zero32
  go_enter Try.func22, Try.ntmps22
  go_wp2_with (refine wl_zmed rfl rfl ?_)
  refine bodyPost_ret (results_cell1 Try.results22 rfl (loadVar_blk (c := (medC 0 0 (.slice none 0 0) (.slice none 0 0) 0 zero32).toArray) (heap_alloc_last _ _) Try.underlying54 rfl (by rw [List.size_toArray, med_len]; exact medInfo))) rfl ?_
  exact ⟨rfl, by (repeat (first | exact Below.refl _ _ | refine bg_al ?_ | refine bg_gr ?_ | refine bg_drn ?_ | refine bg_dr ?_ | assumption))⟩
end Go.Proofs.Ytcbglojjbgenlaa
namespace Go.Proofs.Ytcbglojjbgenlaa
open Go.RowKit Go.MapL
set_option linter.unusedSimpArgs false
set_option linter.unusedVariables false

theorem binOp_of_equal {t : TypeId} {x y : Array Value} {w : World} {r : Bool} (h : (Op.equal t (.agg x) (.agg y)).run Try.prog w = .ok r w) : (binOp .eql t (.agg x) (.agg y)).run Try.prog w = .ok (.bool r) w ∧ (binOp .neq t (.agg x) (.agg y)).run Try.prog w = .ok (.bool (!r)) w := by
  constructor
  · show (Value.bool <$> Op.equal t (.agg x) (.agg y)).run Try.prog w = _
    simp [h]
  · show ((fun a => Value.bool !a) <$> Op.equal t (.agg x) (.agg y)).run Try.prog w = _
    simp [h]
theorem hash_equal (a b : H32) (w : World) : (Op.equal 33 (hv a) (hv b)).run Try.prog w = .ok (decide (a = b)) w := by
  obtain ⟨la, ha⟩ := hash_key a
  obtain ⟨lb, hb⟩ := hash_key b
  obtain ⟨r, hr, hi⟩ : ∃ r : Bool, (Op.equal 33 (hv a) (hv b)).run Try.prog w = .ok r w ∧ (r = true ↔ la = lb) := by
    refine run_equal_deep w (m := 2) (by decide) hashAt ?_ ha hb
    rw [Try.underlying33]
  have e : r = decide (a = b) := by
    rw [Bool.eq_iff_iff, hi, decide_eq_true_iff]
    constructor
    · intro e
      subst e
      exact hv_inj (hashLaw.inj ha hb)
    · intro e
      subst e
      rw [ha] at hb
      injection hb
  rw [hr, e]
theorem hash_eql (a b : H32) (w : World) : (binOp .eql 33 (.agg (a.1.map bv).toArray) (.agg (b.1.map bv).toArray)).run Try.prog w = .ok (.bool (decide (a = b))) w := (binOp_of_equal (hash_equal a b w)).1
theorem hash_neq (a b : H32) (w : World) : (binOp .neq 33 (.agg (a.1.map bv).toArray) (.agg (b.1.map bv).toArray)).run Try.prog w = .ok (.bool (!decide (a = b))) w := (binOp_of_equal (hash_equal a b w)).2
theorem regAt : (Try.prog).keyTypeAt 3 39 = true := by kernel_rfl
theorem zreg_key : ∃ l, keyOf Try.prog 39 (.agg (regC 0 zero32).toArray) = some l := Option.isSome_iff_exists.1 (by kernel_rfl)
theorem zreg_eql (w : World) : (binOp .eql 39 (.agg (regC 0 zero32).toArray) (.agg (regC 0 zero32).toArray)).run Try.prog w = .ok (.bool true) w := by
  obtain ⟨la, ha⟩ := zreg_key
  obtain ⟨r, hr, hi⟩ : ∃ r : Bool, (Op.equal 39 (.agg (regC 0 zero32).toArray) (.agg (regC 0 zero32).toArray)).run Try.prog w = .ok r w ∧ (r = true ↔ la = la) := by
    refine run_equal_deep w (m := 3) (by decide) regAt ?_ ha ha
    rw [Try.underlying39]
  rw [hi.2 rfl] at hr
  exact (binOp_of_equal hr).1

attribute [local go_sem] size_gr cell_gr frozen_gr setCell_gr gr_drew gr_drewN lt_k lt_kc le_k le_kc sub_kc nil29 nil28 nil49 mkmap
attribute [local go_sem ↓] Go.wp_at_zero Go.wp_at_succ
attribute [local go_sem high] hash_eql hash_neq zreg_eql

theorem same_empty (w : World) : Calls Try.prog 37 #[.agg #[.slice none 0 0, .slice none 0 0], .agg #[.slice none 0 0, .slice none 0 0]] w fun e w' => e = .returned (.bool true) ∧ Below w.heap.size w w' := by
  go_enter Try.func37, Try.ntmps37
  go_wp2_with (go_at_call 28; refine (same_any _ _ [] [] _ (SB.nil _) (SB.nil _)).mono ?_; rintro en w1 ⟨rfl, n1, rfl⟩)
  refine wp_loop_rounds 1 ?_; rw [rounds_succ]
  go_wp2
  first | go_ret | go_end0
  exact ⟨rfl, by (repeat (first | exact Below.refl _ _ | refine bg_al ?_ | refine bg_gr ?_ | refine bg_drn ?_ | refine bg_dr ?_ | assumption))⟩
theorem wl_load_w {ops : Array Oper} {rest : List Oper} {op : Oper} {a : Act} {w : World} {Q : Exit → Act → World → Prop} (hw : Region.wanted op (yielded ops a.tmps) = true) (ty : TypeId) (x : Operand) (ho : op.op = .load ty x)
    (b o : Nat) (hx : a.eval x = .pointer (some ⟨b, o, none⟩)) (cs : List Value) (d : TypeDesc) (hc : w.rangeAt b o cs)
    (hu : (Try.prog).underlying ty = some d) (hd : d.isRow = true) (hi : ((Try.prog).info? ty).map (·.size) = some cs.length)
    (h : wpList Try.prog ops Q rest (a.put op.dst (.agg cs.toArray)) w) : wpList Try.prog ops Q (op :: rest) a w := by
  unfold wpList
  rw [if_pos hw]
  exact .inl (wp_load_mid ty x ho b o hx cs d hc hu hd hi h)
theorem med_tail (s r : Int) (b l : Value) (c : Int) (t : H32) : ∀ j v, (regC c t)[j]? = some v → (medC s r b l c t).toArray[4 + j]? = some v := fun j v hj => by
  have e : medC s r b l c t = [.int .i64 s, .int .i64 r, b, l] ++ regC c t := by simp [medC, regC]
  rw [List.getElem?_toArray, e, List.getElem?_append_right (by simp), ← hj]
  congr 1
  simp
theorem sameMedia_empty (w : World) : Calls Try.prog 21 #[.agg (medC 0 0 (.slice none 0 0) (.slice none 0 0) 0 zero32).toArray, .agg (medC 0 0 (.slice none 0 0) (.slice none 0 0) 0 zero32).toArray] w fun e w' => e = .returned (.bool true) ∧ Below w.heap.size w w' := by
  have hm0 : (medC 0 0 (.slice none 0 0) (.slice none 0 0) 0 zero32)[0]? = some (.int .i64 0) := rfl
  have hm1 : (medC 0 0 (.slice none 0 0) (.slice none 0 0) 0 zero32)[1]? = some (.int .i64 0) := rfl
  have hm2 : (medC 0 0 (.slice none 0 0) (.slice none 0 0) 0 zero32)[2]? = some (.slice none 0 0) := rfl
  have hm3 : (medC 0 0 (.slice none 0 0) (.slice none 0 0) 0 zero32)[3]? = some (.slice none 0 0) := rfl
  have R0 : ∀ W : World, W.heap[w.heap.size]? = some (.cells (medC 0 0 (.slice none 0 0) (.slice none 0 0) 0 zero32).toArray 54 (0, 0)) → W.rangeAt w.heap.size 4 (regC 0 zero32) := fun W h => range_blk h 4 _ (fun j v h => med_tail _ _ _ _ _ _ j v h)
  have R1 : ∀ W : World, W.heap[w.heap.size + 1]? = some (.cells (medC 0 0 (.slice none 0 0) (.slice none 0 0) 0 zero32).toArray 54 (0, 0)) → W.rangeAt (w.heap.size + 1) 4 (regC 0 zero32) := fun W h => range_blk h 4 _ (fun j v h => med_tail _ _ _ _ _ _ j v h)
  have HR0 := Lib.hid (R0 ((w.alloc (.cells (medC 0 0 (.slice none 0 0) (.slice none 0 0) 0 zero32).toArray 54)).alloc (.cells (medC 0 0 (.slice none 0 0) (.slice none 0 0) 0 zero32).toArray 54)) (by rw [Below.heap_alloc _ _ _ (by simp), heap_alloc_last]))
  have HR1 := Lib.hid (R1 ((w.alloc (.cells (medC 0 0 (.slice none 0 0) (.slice none 0 0) 0 zero32).toArray 54)).alloc (.cells (medC 0 0 (.slice none 0 0) (.slice none 0 0) 0 zero32).toArray 54)) (by rw [show w.heap.size + 1 = (w.alloc (.cells (medC 0 0 (.slice none 0 0) (.slice none 0 0) 0 zero32).toArray 54)).heap.size from by simp, heap_alloc_last]))
  clear R0 R1
  go_enter Try.func21, Try.ntmps21
  go_wp2_with (first
    | (refine wl_load_w (by rfl) 39 _ rfl _ _ (by rfl) (regC 0 zero32) _ HR0.out Try.underlying39 rfl (by rw [reg_len]; exact regInfo) ?_)
    | (refine wl_load_w (by rfl) 39 _ rfl _ _ (by rfl) (regC 0 zero32) _ HR1.out Try.underlying39 rfl (by rw [reg_len]; exact regInfo) ?_)
    | (go_at_call 37; refine (same_empty _).mono ?_; rintro en w1 ⟨rfl, hb1⟩; obtain ⟨D1, rfl⟩ := gr_of_below hb1; clear hb1))
  go_ret
  exact ⟨rfl, by (repeat (first | exact Below.refl _ _ | refine bg_al ?_ | refine bg_gr ?_ | refine bg_drn ?_ | refine bg_dr ?_ | assumption))⟩
end Go.Proofs.Ytcbglojjbgenlaa
namespace Go.Proofs.Ytcbglojjbgenlaa
open Go.RowKit Go.MapL Go.ChangeMaps Go.MapKept
set_option linter.unusedSimpArgs false
set_option linter.unusedVariables false

theorem zeroB (w : World) : (zeroValue 29).run Try.prog w = .ok (.slice none 0 0) w := (zero_of_info (P := Try.prog) (n := 1) (by kernel_rfl)).1 w
theorem zeroO (w : World) : (zeroValue 112).run Try.prog w = .ok (.agg #[.slice none 0 0, .bool false]) w := (zero_of_info (P := Try.prog) (n := 2) (by kernel_rfl)).1 w
theorem zeroR (w : World) : (zeroValue 60).run Try.prog w = .ok (.slice none 0 0) w := (zero_of_info (P := Try.prog) (n := 1) (by kernel_rfl)).1 w

theorem size_setBlock (w : World) (B : Nat) (o : Obj) : (setBlock w B o).heap.size = w.heap.size := by simp [setBlock]
theorem heap_setB (w : World) (B : Nat) (o : Obj) (k : Nat) (h : k ≠ B) : (setBlock w B o).heap[k]? = w.heap[k]? := by
  simp only [setBlock, Array.getElem?_setIfInBounds]
  rw [if_neg (fun e => h e.symm)]
theorem cell_setB (w : World) (B : Nat) (o : Obj) (b i : Nat) (h : b ≠ B) : (setBlock w B o).cell? ⟨b, i, none⟩ = w.cell? ⟨b, i, none⟩ := World.cell?_of_block (heap_setB w B o b h)
theorem chg_setB {S : Nat → Prop} {a w : World} (h : Chg S a w) {B : Nat} (hB : S B) (o : Obj) : Chg S a (setBlock w B o) :=
  h.trans ⟨rfl, rfl, rfl, by rw [size_setBlock]; exact Nat.le_refl _, fun k _ hs => heap_setB w B o k (fun e => hs (e ▸ hB))⟩
theorem map_none {C : KeyEnc Try.prog 33 H32} {w : World} {B n : Nat} {m : H32 → Option Value} (h : MapIs C w B m n) (i : Nat) : w.cell? ⟨B, i, none⟩ = none := by
  obtain ⟨es, clk, hb, _⟩ := h
  simp [World.cell?, hb]

theorem dev_at {w : World} {D : Nat} {f : Fd} (h : DevAt w D f) (i : Nat) : w.cell? ⟨D, i, none⟩ = (devC f)[i]? := by
  rw [cell_of_row w D i _ _ _ h]
  simp
theorem dev_fr {w : World} {D : Nat} {f : Fd} (h : DevAt w D f) (i : Nat) : w.frozen? ⟨D, i, none⟩ = false := frozen_of_row _ _ _ _ _ h
theorem dev_c {w : World} {D : Nat} {f : Fd} (h : DevAt w D f) :
    w.cell? ⟨D, 0, none⟩ = some (.int .i64 f.slots) ∧ w.cell? ⟨D, 1, none⟩ = some (.int .i64 f.room) ∧ w.cell? ⟨D, 2, none⟩ = some f.bm ∧ w.cell? ⟨D, 3, none⟩ = some f.log ∧ w.cell? ⟨D, 4, none⟩ = some (.int .i64 f.cnt) ∧
    w.cell? ⟨D, 37, none⟩ = some (.bool f.down) ∧ w.cell? ⟨D, 38, none⟩ = some f.cho ∧ w.cell? ⟨D, 39, none⟩ = some f.acc ∧ w.cell? ⟨D, 40, none⟩ = some f.vers ∧ w.cell? ⟨D, 41, none⟩ = some f.past ∧ w.cell? ⟨D, 42, none⟩ = some f.nb ∧ w.cell? ⟨D, 43, none⟩ = some f.nl := by
  have e : ∀ i, (devC f)[37 + i]? = [.bool f.down, f.cho, f.acc, f.vers, f.past, f.nb, f.nl][i]? := fun i => by
    unfold devC
    rw [List.getElem?_append_right (by simp; omega), List.getElem?_append_right (by simp [f.tag.2]; omega)]
    congr 1
    simp [f.tag.2]
    omega
  refine ⟨?_, ?_, ?_, ?_, ?_, ?_, ?_, ?_, ?_, ?_, ?_, ?_⟩
  · rw [dev_at h]; rfl
  · rw [dev_at h]; rfl
  · rw [dev_at h]; rfl
  · rw [dev_at h]; rfl
  · rw [dev_at h]; rfl
  · rw [dev_at h]; exact e 0
  · rw [dev_at h]; exact e 1
  · rw [dev_at h]; exact e 2
  · rw [dev_at h]; exact e 3
  · rw [dev_at h]; exact e 4
  · rw [dev_at h]; exact e 5
  · rw [dev_at h]; exact e 6

attribute [local go_sem] size_gr cell_gr frozen_gr setCell_gr gr_drew gr_drewN lt_k lt_kc le_k le_kc sub_kc nil29 nil28 nil49 mkmap size_setBlock cell_setB
attribute [local go_sem ↓] Go.wp_at_zero Go.wp_at_succ

theorem map_bel {w w' : World} {B n : Nat} {m : H32 → Option Value} (h : MapIs HC w B m n) (hb : Below w.heap.size w w') : MapIs HC w' B m n := h.of_cell (hb.block _ h.lt)
theorem map_chg {S : Nat → Prop} {w w' : World} {B n : Nat} {m : H32 → Option Value} (h : MapIs HC w B m n) (hb : Chg S w w') (hs : ¬ S B) : MapIs HC w' B m n := h.of_cell (hb.block _ h.lt hs)
theorem range_bel {w w' : World} {g o : Nat} {cs : List Value} (h : w.rangeAt g o cs) (hb : Below w.heap.size w w') : w'.rangeAt g o cs := fun j v hv => by
  have := h j v hv
  rw [hb.cell (World.block_lt_of_cell? w _ this)]
  exact this
theorem lookO (w : World) (N n : Nat) (m : H32 → Option Value) (q : H32) (h : MapIs HC w N m n) : (Instr.lookup 80 (.map (some N)) (.agg (q.1.map bv).toArray) true).run Try.prog w = .ok (.tuple #[(m q).getD (.agg #[.slice none 0 0, .bool false]), .bool (m q).isSome]) w := h.look Try.underlying80 (zeroO w) q true
theorem lookB (w : World) (N n : Nat) (m : H32 → Option Value) (q : H32) (h : MapIs HC w N m n) : (Instr.lookup 76 (.map (some N)) (.agg (q.1.map bv).toArray) true).run Try.prog w = .ok (.tuple #[(m q).getD (.slice none 0 0), .bool (m q).isSome]) w := h.look Try.underlying76 (zeroB w) q true
/-- what a region that looks a key up may lean on -/
theorem keepO {W0 W : World} {N n g : Nat} {m : H32 → Option Value} {q : H32} {X : Value} (hm : MapIs HC W0 N m n) (hr : W0.rangeAt g 0 (q.1.map bv)) (hX : .tuple #[(m q).getD (.agg #[.slice none 0 0, .bool false]), .bool (m q).isSome] = X) (h : Below W0.heap.size W0 W) :
    (∀ (b o : Nat), b < W0.heap.size → W.cell? ⟨b, o, none⟩ = W0.cell? ⟨b, o, none⟩) ∧ W.rangeAt g 0 (q.1.map bv) ∧ (Instr.lookup 80 (.map (some N)) (.agg (q.1.map bv).toArray) true).run Try.prog W = .ok X W :=
  ⟨cellB h, range_bel hr h, hX ▸ lookO W N n m q (map_bel hm h)⟩
theorem keepB {W0 W : World} {N n g : Nat} {m : H32 → Option Value} {q : H32} {X : Value} (hm : MapIs HC W0 N m n) (hr : W0.rangeAt g 0 (q.1.map bv)) (hX : .tuple #[(m q).getD (.slice none 0 0), .bool (m q).isSome] = X) (h : Below W0.heap.size W0 W) :
    (∀ (b o : Nat), b < W0.heap.size → W.cell? ⟨b, o, none⟩ = W0.cell? ⟨b, o, none⟩) ∧ W.rangeAt g 0 (q.1.map bv) ∧ (Instr.lookup 76 (.map (some N)) (.agg (q.1.map bv).toArray) true).run Try.prog W = .ok X W :=
  ⟨cellB h, range_bel hr h, hX ▸ lookB W N n m q (map_bel hm h)⟩

theorem keepN {W0 W : World} {N g : Nat} {q : H32} (hr : W0.rangeAt g 0 (q.1.map bv)) (h : Below W0.heap.size W0 W) :
    (∀ (b o : Nat), b < W0.heap.size → b ≠ N → W.cell? ⟨b, o, none⟩ = W0.cell? ⟨b, o, none⟩) ∧ W.rangeAt g 0 (q.1.map bv) :=
  ⟨fun b o hb _ => cellB h b o hb, range_bel hr h⟩
theorem keepN' {W0 : World} {N g : Nat} {q : H32} {ob : Obj} (hr : W0.rangeAt g 0 (q.1.map bv)) (hg : g ≠ N) :
    (∀ (b o : Nat), b < W0.heap.size → b ≠ N → (setBlock W0.drew N ob).cell? ⟨b, o, none⟩ = W0.cell? ⟨b, o, none⟩) ∧ (setBlock W0.drew N ob).rangeAt g 0 (q.1.map bv) :=
  ⟨fun b o hb hn => cell_setB _ _ _ _ _ hn, fun j v hv => (cell_setB _ _ _ _ _ hg).trans (hr j v hv)⟩
set_option maxRecDepth 8000 in
open Classical in
/-- set -/
theorem set_new (D B N nB nN : Nat) (f : Fd) (mB mN : H32 → Option Value) (q : H32) (v : Value) (w : World) (hD : DevAt w D f) (hfB : f.bm = .map (some B)) (hfN : f.nb = .map (some N)) (hBN : B ≠ N) (hB : MapIs HC w B mB nB) (hN : MapIs HC w N mN nN)
    (hno : mN q = none) (xA : Option Addr) (xn xc : Nat) (xb : Bool) (hxo : (mB q).getD (.slice none 0 0) = .slice xA xn xc) (hxb : (mB q).isSome = xb) (nB' : Nat) (hnB : (if (mB q).isSome then nB else nB + 1) = nB') :
    Calls Try.prog 65 #[.pointer (some ⟨D, 0, none⟩), hv q, v, .bool true] w fun e w' => e = .returned (.tuple #[]) ∧
      MapIs HC w' B (putV mB q v) nB' ∧ MapIs HC w' N (putV mN q (.agg #[.slice xA xn xc, .bool xb])) (nN + 1) ∧ Chg (fun k => k = B ∨ k = N) w w' := by
  obtain ⟨-, -, hc2, -, -, -, -, -, -, -, hc42, -⟩ := dev_c hD
  rw [hfB] at hc2
  rw [hfN] at hc42
  have hDB : D ≠ B := fun e => by rw [e, map_none hB] at hc2; cases hc2
  have hDN : D ≠ N := fun e => by rw [e, map_none hN] at hc2; cases hc2
  have HD := Lib.hid hD
  have HB := Lib.hid hB
  have HN := Lib.hid hN
  have HNO := Lib.hid hno
  have HXO := Lib.hid hxo
  have HXB := Lib.hid hxb
  have HNB := Lib.hid hnB
  have hDlt : D < w.heap.size := World.block_lt_of_cell? w _ hc2
  have hBlt : B < w.heap.size := hB.lt
  have hNlt : N < w.heap.size := hN.lt
  have hql := q_len q
  have hqu := Try.underlying33
  have hqi := hash_info q
  clear hD hB hN hno hxo hxb hfB hfN hnB
  unfold hv
  go_enter Try.func65, Try.ntmps65
  go_wp2_with fail
  refine with_world (fun W0 hW0 => ?_)
  have HW0 := Lib.hid hW0
  have hB0 : Below w.heap.size w W0 := by rw [hW0]; (repeat (first | exact Below.refl _ _ | refine bg_al ?_ | refine bg_gr ?_ | refine bg_drn ?_ | refine bg_dr ?_ | assumption))
  have HB0 := Lib.hid hB0
  have z0 : W0.heap.size = w.heap.size + 1 := by rw [hW0]; simp
  have k2 : W0.cell? ⟨D, 2, none⟩ = some (.map (some B)) := by rw [hB0.cell (p := ⟨D, 2, none⟩) hDlt]; exact hc2
  have k42 : W0.cell? ⟨D, 42, none⟩ = some (.map (some N)) := by rw [hB0.cell (p := ⟨D, 42, none⟩) hDlt]; exact hc42
  have hr0 : W0.rangeAt w.heap.size 0 (q.1.map bv) := by rw [hW0]; exact range_hash w _ q rfl
  have HR0 := Lib.hid hr0
  clear hW0 hB0 hr0
  go_region_held3 (fun W => (∀ (b o : Nat), b < W0.heap.size → W.cell? ⟨b, o, none⟩ = W0.cell? ⟨b, o, none⟩) ∧ W.rangeAt w.heap.size 0 (q.1.map bv) ∧ (Instr.lookup 80 (.map (some N)) (.agg (q.1.map bv).toArray) true).run Try.prog W = .ok (.tuple #[.agg #[.slice none 0 0, .bool false], .bool false]) W)
    (exact keepO (map_bel HN.out HB0.out) HR0.out (by rw [HNO.out]; rfl) (by (repeat (first | exact Below.refl _ _ | refine bg_al ?_ | refine bg_gr ?_ | refine bg_drn ?_ | refine bg_dr ?_ | assumption)))) (fail)
  all_goals go_wp2_with fail
  all_goals
    refine with_world (fun W1 hW1 => ?_)
    have hB1 : Below w.heap.size w W1 := by have hB0 := HB0.out; rw [hW1]; (repeat (first | exact Below.refl _ _ | refine bg_al ?_ | refine bg_gr ?_ | refine bg_drn ?_ | refine bg_dr ?_ | assumption))
    have HB1 := Lib.hid hB1
    have HBA := Lib.hid (show Below W0.heap.size W0 W1 by rw [hW1]; (repeat (first | exact Below.refl _ _ | refine bg_al ?_ | refine bg_gr ?_ | refine bg_drn ?_ | refine bg_dr ?_ | assumption)))
    have z1 : D < W1.heap.size := by have := hB1.size; omega
    have j2 : W1.cell? ⟨D, 2, none⟩ = some (.map (some B)) := by rw [hB1.cell (p := ⟨D, 2, none⟩) hDlt]; exact hc2
    have j42 : W1.cell? ⟨D, 42, none⟩ = some (.map (some N)) := by rw [hB1.cell (p := ⟨D, 42, none⟩) hDlt]; exact hc42
    clear hW1 hB1
    go_region_held3 (fun W => (∀ (b o : Nat), b < W1.heap.size → W.cell? ⟨b, o, none⟩ = W1.cell? ⟨b, o, none⟩) ∧ W.rangeAt w.heap.size 0 (q.1.map bv) ∧ (Instr.lookup 76 (.map (some B)) (.agg (q.1.map bv).toArray) true).run Try.prog W = .ok (.tuple #[.slice xA xn xc, .bool xb]) W)
      (exact keepB (map_bel HB.out HB1.out) (range_bel HR0.out HBA.out) (by rw [HXO.out, HXB.out]) (by (repeat (first | exact Below.refl _ _ | refine bg_al ?_ | refine bg_gr ?_ | refine bg_drn ?_ | refine bg_dr ?_ | assumption)))) (fail)
    go_wp2_with fail
    refine with_world (fun W2 hW2 => ?_)
    have hB2 : Below w.heap.size w W2 := by have hB1 := HB1.out; rw [hW2]; (repeat (first | exact Below.refl _ _ | refine bg_al ?_ | refine bg_gr ?_ | refine bg_drn ?_ | refine bg_dr ?_ | assumption))
    have HB2 := Lib.hid hB2
    have HBC := Lib.hid (show Below W0.heap.size W0 W2 from bel_trans HBA.out (by rw [hW2]; (repeat (first | exact Below.refl _ _ | refine bg_al ?_ | refine bg_gr ?_ | refine bg_drn ?_ | refine bg_dr ?_ | assumption))))
    have z2 : D < W2.heap.size := by have := hB2.size; omega
    have HG := Lib.hid (show w.heap.size ≠ N by omega)
    have i2 : W2.cell? ⟨D, 2, none⟩ = some (.map (some B)) := by rw [hB2.cell (p := ⟨D, 2, none⟩) hDlt]; exact hc2
    have i42 : W2.cell? ⟨D, 42, none⟩ = some (.map (some N)) := by rw [hB2.cell (p := ⟨D, 42, none⟩) hDlt]; exact hc42
    obtain ⟨ob, hrun, hN2⟩ := (map_bel HN.out (show Below w.heap.size w W2.drew from hB2.drew)).put Try.underlying80 q (.agg #[.slice xA xn xc, .bool xb])
    have hrun' : (Instr.mapUpdate 80 (.map (some N)) (.agg (q.1.map bv).toArray) (.agg #[.slice xA xn xc, .bool xb])).run Try.prog W2.drew = .ok () (setBlock W2.drew N ob) := hrun
    have HN2 := Lib.hid hN2
    clear hW2 hB2 hN2 hrun
    go_region_held3 (fun W => (∀ (b o : Nat), b < W2.heap.size → b ≠ N → W.cell? ⟨b, o, none⟩ = W2.cell? ⟨b, o, none⟩) ∧ W.rangeAt w.heap.size 0 (q.1.map bv))
      (first | exact keepN' (range_bel HR0.out HBC.out) HG.out | exact keepN (range_bel HR0.out HBC.out) (by (repeat (first | exact Below.refl _ _ | refine bg_al ?_ | refine bg_gr ?_ | refine bg_drn ?_ | refine bg_dr ?_ | assumption)))) (fail)
    go_wp2_with fail
    refine with_world (fun W3 hW3 => ?_)
    have hC3 : Chg (fun k => k = N) w W3 := by rw [hW3]; exact chg_setB (S := fun k => k = N) (Below.chg _ HB2.out.drew) rfl ob
    have HC3 := Lib.hid hC3
    have z3 : D < W3.heap.size := by have := hC3.size; omega
    have l2 : W3.cell? ⟨D, 2, none⟩ = some (.map (some B)) := by rw [World.cell?_of_block (hC3.block D hDlt hDN)]; exact hc2
    have HR3 : Hid (W3.rangeAt w.heap.size 0 (q.1.map bv)) := Lib.hid (by
      have := (keepN' (ob := ob) (range_bel HR0.out HBC.out) HG.out).2
      rw [hW3]; exact this)
    have HN3 : Hid (MapIs HC W3 N (putV mN q (.agg #[.slice xA xn xc, .bool xb])) (nN + 1)) := Lib.hid (by
      have := HN2.out
      rw [HNO.out] at this
      rw [hW3]; exact this)
    obtain ⟨ob2, hrun2, hB3⟩ := (map_chg HB.out (show Chg (fun k => k = N) w W3.drew from hC3.drewN 1) hBN).put Try.underlying76 q v
    have hrun2' : (Instr.mapUpdate 76 (.map (some B)) (.agg (q.1.map bv).toArray) v).run Try.prog W3.drew = .ok () (setBlock W3.drew B ob2) := hrun2
    have HB3 := Lib.hid hB3
    have HG2 := Lib.hid (show w.heap.size ≠ B by omega)
    clear hW3 hC3 hB3 hrun2
    go_region_held3 (fun W => (∀ (b o : Nat), b < W3.heap.size → b ≠ B → W.cell? ⟨b, o, none⟩ = W3.cell? ⟨b, o, none⟩) ∧ W.rangeAt w.heap.size 0 (q.1.map bv))
      (first | exact keepN' HR3.out HG2.out | exact keepN HR3.out (by (repeat (first | exact Below.refl _ _ | refine bg_al ?_ | refine bg_gr ?_ | refine bg_drn ?_ | refine bg_dr ?_ | assumption)))) (fail)
    go_wp2_with fail
    go_end0
    refine ⟨rfl, ?_, ?_, ?_⟩
    · have := HB3.out
      rw [HNB.out] at this
      exact this
    · exact (map_bel HN3.out (bg_dr (Below.refl _ _))).of_cell (heap_setB _ _ _ _ (fun e => hBN e.symm))
    · exact chg_setB (S := fun k => k = B ∨ k = N) ((HC3.out.drewN 1).mono (fun k _ h => Or.inr h)) (Or.inl rfl) ob2
end Go.Proofs.Ytcbglojjbgenlaa
