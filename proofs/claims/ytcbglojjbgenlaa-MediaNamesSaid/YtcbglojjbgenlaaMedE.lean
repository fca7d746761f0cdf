/- Hashes and registers compared; SameMedia of nothing. -/
import Derived.Test.YtcbglojjbgenlaaMedD
import Derived.DeepKeys
namespace Go.Proofs.Ytcbglojjbgenlaa
open Go.RowKit Go.MapL
set_option linter.unusedSimpArgs false
set_option linter.unusedVariables false

theorem binOp_of_equal {t : TypeId} {x y : Array Value} {w : World} {r : Bool} (h : (Op.equal t (.agg x) (.agg y)).run Try.prog w = .ok r w) : (binOp .eql t (.agg x) (.agg y)).run Try.prog w = .ok (.bool r) w ∧ (binOp .neq t (.agg x) (.agg y)).run Try.prog w = .ok (.bool (!r)) w := by
  constructor
  · show (Value.bool <$> Op.equal t (.agg x) (.agg y)).run Try.prog w = _
    simp [h]
  · show ((fun a => Value.bool !a) <$> Op.equal t (.agg x) (.agg y)).run Try.prog w = _
    simp [h]
theorem hash_equal (a b : H32) (w : World) : (Op.equal 33 (hv a) (hv b)).run Try.prog w = .ok (decide (a = b)) w := by
  obtain ⟨la, ha⟩ := hash_key a
  obtain ⟨lb, hb⟩ := hash_key b
  obtain ⟨r, hr, hi⟩ : ∃ r : Bool, (Op.equal 33 (hv a) (hv b)).run Try.prog w = .ok r w ∧ (r = true ↔ la = lb) := by
    refine run_equal_deep w (m := 2) (by decide) hashAt ?_ ha hb
    rw [Try.underlying33]
  have e : r = decide (a = b) := by
    rw [Bool.eq_iff_iff, hi, decide_eq_true_iff]
    constructor
    · intro e
      subst e
      exact hv_inj (hashLaw.inj ha hb)
    · intro e
      subst e
      rw [ha] at hb
      injection hb
  rw [hr, e]
theorem hash_eql (a b : H32) (w : World) : (binOp .eql 33 (.agg (a.1.map bv).toArray) (.agg (b.1.map bv).toArray)).run Try.prog w = .ok (.bool (decide (a = b))) w := (binOp_of_equal (hash_equal a b w)).1
theorem hash_neq (a b : H32) (w : World) : (binOp .neq 33 (.agg (a.1.map bv).toArray) (.agg (b.1.map bv).toArray)).run Try.prog w = .ok (.bool (!decide (a = b))) w := (binOp_of_equal (hash_equal a b w)).2
theorem regAt : (Try.prog).keyTypeAt 3 39 = true := by kernel_rfl
theorem zreg_key : ∃ l, keyOf Try.prog 39 (.agg (regC 0 zero32).toArray) = some l := Option.isSome_iff_exists.1 (by kernel_rfl)
theorem zreg_eql (w : World) : (binOp .eql 39 (.agg (regC 0 zero32).toArray) (.agg (regC 0 zero32).toArray)).run Try.prog w = .ok (.bool true) w := by
  obtain ⟨la, ha⟩ := zreg_key
  obtain ⟨r, hr, hi⟩ : ∃ r : Bool, (Op.equal 39 (.agg (regC 0 zero32).toArray) (.agg (regC 0 zero32).toArray)).run Try.prog w = .ok r w ∧ (r = true ↔ la = la) := by
    refine run_equal_deep w (m := 3) (by decide) regAt ?_ ha ha
    rw [Try.underlying39]
  rw [hi.2 rfl] at hr
  exact (binOp_of_equal hr).1

attribute [local go_sem] size_gr cell_gr frozen_gr setCell_gr gr_drew gr_drewN lt_k lt_kc le_k le_kc sub_kc nil29 nil28 nil49 mkmap
attribute [local go_sem ↓] Go.wp_at_zero Go.wp_at_succ
attribute [local go_sem high] hash_eql hash_neq zreg_eql

theorem same_empty (w : World) : Calls Try.prog 37 #[.agg #[.slice none 0 0, .slice none 0 0], .agg #[.slice none 0 0, .slice none 0 0]] w fun e w' => e = .returned (.bool true) ∧ Below w.heap.size w w' := by
  go_enter Try.func37, Try.ntmps37
  go_wp2_with (go_at_call 28; refine (same_any _ _ [] [] _ (SB.nil _) (SB.nil _)).mono ?_; rintro en w1 ⟨rfl, n1, rfl⟩)
  refine wp_loop_rounds 1 ?_; rw [rounds_succ]
  go_wp2
  first | go_ret | go_end0
  exact ⟨rfl, by (repeat (first | exact Below.refl _ _ | refine bg_al ?_ | refine bg_gr ?_ | refine bg_drn ?_ | refine bg_dr ?_ | assumption))⟩
theorem wl_load_w {ops : Array Oper} {rest : List Oper} {op : Oper} {a : Act} {w : World} {Q : Exit → Act → World → Prop} (hw : Region.wanted op (yielded ops a.tmps) = true) (ty : TypeId) (x : Operand) (ho : op.op = .load ty x)
    (b o : Nat) (hx : a.eval x = .pointer (some ⟨b, o, none⟩)) (cs : List Value) (d : TypeDesc) (hc : w.rangeAt b o cs)
    (hu : (Try.prog).underlying ty = some d) (hd : d.isRow = true) (hi : ((Try.prog).info? ty).map (·.size) = some cs.length)
    (h : wpList Try.prog ops Q rest (a.put op.dst (.agg cs.toArray)) w) : wpList Try.prog ops Q (op :: rest) a w := by
  unfold wpList
  rw [if_pos hw]
  exact .inl (wp_load_mid ty x ho b o hx cs d hc hu hd hi h)
theorem med_tail (s r : Int) (b l : Value) (c : Int) (t : H32) : ∀ j v, (regC c t)[j]? = some v → (medC s r b l c t).toArray[4 + j]? = some v := fun j v hj => by
  have e : medC s r b l c t = [.int .i64 s, .int .i64 r, b, l] ++ regC c t := by simp [medC, regC]
  rw [List.getElem?_toArray, e, List.getElem?_append_right (by simp), ← hj]
  congr 1
  simp
theorem sameMedia_empty (w : World) : Calls Try.prog 21 #[.agg (medC 0 0 (.slice none 0 0) (.slice none 0 0) 0 zero32).toArray, .agg (medC 0 0 (.slice none 0 0) (.slice none 0 0) 0 zero32).toArray] w fun e w' => e = .returned (.bool true) ∧ Below w.heap.size w w' := by
  have hm0 : (medC 0 0 (.slice none 0 0) (.slice none 0 0) 0 zero32)[0]? = some (.int .i64 0) := rfl
  have hm1 : (medC 0 0 (.slice none 0 0) (.slice none 0 0) 0 zero32)[1]? = some (.int .i64 0) := rfl
  have hm2 : (medC 0 0 (.slice none 0 0) (.slice none 0 0) 0 zero32)[2]? = some (.slice none 0 0) := rfl
  have hm3 : (medC 0 0 (.slice none 0 0) (.slice none 0 0) 0 zero32)[3]? = some (.slice none 0 0) := rfl
  have R0 : ∀ W : World, W.heap[w.heap.size]? = some (.cells (medC 0 0 (.slice none 0 0) (.slice none 0 0) 0 zero32).toArray 54 (0, 0)) → W.rangeAt w.heap.size 4 (regC 0 zero32) := fun W h => range_blk h 4 _ (fun j v h => med_tail _ _ _ _ _ _ j v h)
  have R1 : ∀ W : World, W.heap[w.heap.size + 1]? = some (.cells (medC 0 0 (.slice none 0 0) (.slice none 0 0) 0 zero32).toArray 54 (0, 0)) → W.rangeAt (w.heap.size + 1) 4 (regC 0 zero32) := fun W h => range_blk h 4 _ (fun j v h => med_tail _ _ _ _ _ _ j v h)
  have HR0 := Lib.hid (R0 ((w.alloc (.cells (medC 0 0 (.slice none 0 0) (.slice none 0 0) 0 zero32).toArray 54)).alloc (.cells (medC 0 0 (.slice none 0 0) (.slice none 0 0) 0 zero32).toArray 54)) (by rw [Below.heap_alloc _ _ _ (by simp), heap_alloc_last]))
  have HR1 := Lib.hid (R1 ((w.alloc (.cells (medC 0 0 (.slice none 0 0) (.slice none 0 0) 0 zero32).toArray 54)).alloc (.cells (medC 0 0 (.slice none 0 0) (.slice none 0 0) 0 zero32).toArray 54)) (by rw [show w.heap.size + 1 = (w.alloc (.cells (medC 0 0 (.slice none 0 0) (.slice none 0 0) 0 zero32).toArray 54)).heap.size from by simp, heap_alloc_last]))
  clear R0 R1
  go_enter Try.func21, Try.ntmps21
  go_wp2_with (first
    | (refine wl_load_w (by rfl) 39 _ rfl _ _ (by rfl) (regC 0 zero32) _ HR0.out Try.underlying39 rfl (by rw [reg_len]; exact regInfo) ?_)
    | (refine wl_load_w (by rfl) 39 _ rfl _ _ (by rfl) (regC 0 zero32) _ HR1.out Try.underlying39 rfl (by rw [reg_len]; exact regInfo) ?_)
    | (go_at_call 37; refine (same_empty _).mono ?_; rintro en w1 ⟨rfl, hb1⟩; obtain ⟨D1, rfl⟩ := gr_of_below hb1; clear hb1))
  go_ret
  exact ⟨rfl, by (repeat (first | exact Below.refl _ _ | refine bg_al ?_ | refine bg_gr ?_ | refine bg_drn ?_ | refine bg_dr ?_ | assumption))⟩
end Go.Proofs.Ytcbglojjbgenlaa
