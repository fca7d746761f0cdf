/- MediaNames. -/
import Derived.Test.YtcbglojjbgenlaaMedY
namespace Go.Proofs.Ytcbglojjbgenlaa
open Go.RowKit Go.MapL Go.ChangeMaps Go.MapKept
set_option linter.unusedSimpArgs false
set_option linter.unusedVariables false

def choZ (n : Nat) : List Value := (List.replicate n ((0, 0, 0) : Ch)).flatMap chC
theorem choZ_rep (n : Nat) : choZ n = List.replicate (n * 3) (.int .i64 0) := by
  induction n with
  | zero => rfl
  | succ n ih =>
    unfold choZ at ih ⊢
    rw [List.replicate_succ, List.flatMap_cons, ih, show (n + 1) * 3 = n * 3 + 1 + 1 + 1 from by omega, List.replicate_succ, List.replicate_succ, List.replicate_succ]
    rfl
theorem made_cho (n : Nat) : madeCells (Value.agg #[.int .i64 0, .int .i64 0, .int .i64 0]).cells (n * 3) = (choZ n).toArray := by
  rw [choZ_rep]
  apply Array.ext
  · simp [madeCells]
  · intro i h1 h2
    have h3 : i % 3 < 3 := Nat.mod_lt _ (by decide)
    simp only [madeCells, Value.cells]
    have : ∀ j, j < 3 → (#[Value.int .i64 0, Value.int .i64 0, Value.int .i64 0] : Array Value)[j]! = .int .i64 0 := fun j hj => by
      rcases j with _ | _ | _ | j
      · rfl
      · rfl
      · rfl
      · omega
    rw [Array.getElem_map, Array.getElem_range]
    rw [List.getElem_toArray, List.getElem_replicate]
    exact this _ h3
theorem choI : ∃ i, (Try.prog).info? 27 = some i ∧ i.zero = some (.agg #[.int .i64 0, .int .i64 0, .int .i64 0]) ∧ i.size = 3 ∧ i.bytes = 24 := info_parts choicesT.info
theorem mk_cho (w : World) (n : Nat) (hn : n ≤ 1048576) : (Instr.makeSlice 28 (.int .i64 (n : Int)) (.int .i64 (n : Int))).run Try.prog w = .ok (.slice (some ⟨w.heap.size, 0, none⟩) n n) (w.alloc (.cells (choZ n).toArray 27)) := by
  obtain ⟨i, hi, hz, hs, hb⟩ := choI
  have := run_make (P := Try.prog) w 28 27 i _ Try.underlying28 hi hz .i64 .i64 (n : Int) (n : Int) (by omega) (by omega) (by rw [hb]; omega) (by omega)
  rw [this, hs, Int.toNat_natCast, made_cho]
theorem mk_4097 (w : World) : (Instr.makeSlice 28 (.int .i64 4097) (.int .i64 4097)).run Try.prog w = .ok (.slice (some ⟨w.heap.size, 0, none⟩) 4097 4097) (w.alloc (.cells (choZ 4097).toArray 27)) := mk_cho w 4097 (by decide)
theorem mk_4096 (w : World) : (Instr.makeSlice 28 (.int .i64 4096) (.int .i64 4096)).run Try.prog w = .ok (.slice (some ⟨w.heap.size, 0, none⟩) 4096 4096) (w.alloc (.cells (choZ 4096).toArray 27)) := mk_cho w 4096 (by decide)
theorem wl_make {w : World} {ops : Array Oper} {rest : List Oper} {o : Oper} {a : Act} {Q : Exit → Act → World → Prop} (n : Nat) (hgd : o.guard = none) (l c : Operand) (ho : o.op = Op.makeSlice 28 l c) (hl : a.eval l = .int .i64 (n : Int)) (hc : a.eval c = .int .i64 (n : Int)) (hn : n ≤ 1048576)
    (h : wpList Try.prog ops Q rest (a.put o.dst (.slice (some ⟨w.heap.size, 0, none⟩) n n)) (w.alloc (.cells (choZ n).toArray 27))) : wpList Try.prog ops Q (o :: rest) a w := by
  refine wpList_plain hgd fun K hK' => ?_
  have hrun := mk_cho w n hn
  unfold Oper.wp
  simp [execOp, ho, hl, hc, hrun, Result.andThen]
  exact hK' _ _ h
theorem sc_lit (W : World) (cs : List Ch) (c : Array Value) (n g : Nat) (hg : W.heap.size = g) (hc : c = (cs.flatMap chC).toArray) (hn : cs.length = n) (hb : n ≤ 1099511627776) : SC (W.alloc (.cells c 27)) 3 (.slice (some ⟨g, 0, none⟩) n n) cs.length (cs.flatMap chC) := by
  subst hg hc hn
  have := own_lit W (cs.flatMap chC).toArray 27 (size := 3) (n := cs.length) (base := 0) (Nat.zero_le _) (by unfold maxLen; omega) (by rw [List.size_toArray]; exact chC_len cs)
  exact SC.own (by simpa using this)
theorem st_zreg (W : World) (g : Nat) (c : Array Value) (hg : W.heap.size = g) (hc : c.size = 33) :
    (storeCells ⟨g, 0, none⟩ (regC 0 zero32) 0).run Try.prog (W.alloc (.cells c 39)) = .ok () (W.alloc (.cells (regC 0 zero32).toArray 39)) := by
  subst hg
  have := run_storeCells_new (P := Try.prog) W 39 c (regC 0 zero32).toArray (by rw [List.size_toArray, reg_len]; exact regInfo) (by simp [reg_len, hc]) (reg_one 0 zero32)
  simpa using this
theorem key0_lit : (Value.agg #[.int .u8 0, .int .u8 0, .int .u8 0, .int .u8 0, .int .u8 0, .int .u8 0, .int .u8 0, .int .u8 0, .int .u8 0, .int .u8 0, .int .u8 0, .int .u8 0, .int .u8 0, .int .u8 0, .int .u8 0, .int .u8 0, .int .u8 0, .int .u8 0, .int .u8 0, .int .u8 0, .int .u8 0, .int .u8 0, .int .u8 0, .int .u8 0, .int .u8 0, .int .u8 0, .int .u8 0, .int .u8 0, .int .u8 0, .int .u8 0, .int .u8 0, .int .u8 0]) = hv zero32 := rfl
theorem mayB_big : mayB (List.replicate 4097 ((0, 0, 0) : Ch)) = false := by
  unfold mayB
  rw [List.length_replicate]
  rfl
theorem mayB_fit : mayB (List.replicate 4096 ((0, 0, 0) : Ch)) = true := by
  unfold mayB
  rw [List.length_replicate, Bool.and_eq_true]
  refine ⟨by decide, List.all_eq_true.2 fun x hx => ?_⟩
  rw [List.eq_of_mem_replicate hx]
  rfl
theorem new_big {W : World} {v : Value} (hc : SC W 3 v (List.replicate 4097 ((0, 0, 0) : Ch)).length ((List.replicate 4097 ((0, 0, 0) : Ch)).flatMap chC)) : Calls Try.prog 6 #[.int .i64 4096, .int .i64 1048576, v] W fun e w' => e = .returned (.tuple #[.pointer none, .int .i64 2]) ∧ Below W.heap.size W w' :=
  new_choices 4096 1048576 v _ W (by omega) hc (by rw [List.length_replicate]; omega) mayB_big
theorem new_fit {W : World} {v : Value} (hc : SC W 3 v (List.replicate 4096 ((0, 0, 0) : Ch)).length ((List.replicate 4096 ((0, 0, 0) : Ch)).flatMap chC)) : Calls Try.prog 6 #[.int .i64 4096, .int .i64 1048576, v] W fun e w' => ∃ D, e = .returned (.tuple #[.pointer (some ⟨D, 0, none⟩), .int .i64 0]) ∧ Below W.heap.size W w' :=
  (new_ok 4096 1048576 v _ W (by omega) hc (by rw [List.length_replicate]; omega) mayB_fit).mono fun e w' ⟨D, h1, h2, _⟩ => ⟨D, h1, h2⟩

theorem new_big' (W : World) (g : Nat) (hg : W.heap.size = g) : Calls Try.prog 6 #[.int .i64 4096, .int .i64 1048576, .slice (some ⟨g, 0, none⟩) 4097 4097] (W.alloc (.cells (choZ 4097).toArray 27)) fun e w' => e = .returned (.tuple #[.pointer none, .int .i64 2]) ∧ Below (W.alloc (.cells (choZ 4097).toArray 27)).heap.size (W.alloc (.cells (choZ 4097).toArray 27)) w' :=
  new_big (sc_lit W (List.replicate 4097 (0, 0, 0)) _ 4097 g hg rfl (List.length_replicate ..) (by decide))
theorem new_fit' (W : World) (g : Nat) (hg : W.heap.size = g) : Calls Try.prog 6 #[.int .i64 4096, .int .i64 1048576, .slice (some ⟨g, 0, none⟩) 4096 4096] (W.alloc (.cells (choZ 4096).toArray 27)) fun e w' => ∃ D, e = .returned (.tuple #[.pointer (some ⟨D, 0, none⟩), .int .i64 0]) ∧ Below (W.alloc (.cells (choZ 4096).toArray 27)).heap.size (W.alloc (.cells (choZ 4096).toArray 27)) w' :=
  new_fit (sc_lit W (List.replicate 4096 (0, 0, 0)) _ 4096 g hg rfl (List.length_replicate ..) (by decide))

attribute [local go_sem] size_gr cell_gr frozen_gr setCell_gr gr_drew gr_drewN lt_k lt_kc le_k le_kc sub_kc nil29 nil28 nil49 mkmap conv_const st_zmed st_zreg
attribute [local go_sem ↓] Go.wp_at_zero Go.wp_at_succ

theorem new_one (a b c s r : Int) (hs : 1 ≤ s ∧ s ≤ 4096 ∧ 0 ≤ r ∧ r ≤ 1048576) (hb : chOk (a, b, c) = false) (W : World) (g : Nat) (hg : W.heap.size = g) : Calls Try.prog 6 #[.int .i64 s, .int .i64 r, .slice (some ⟨g, 0, none⟩) 1 1] (W.alloc (.cells #[.int .i64 a, .int .i64 b, .int .i64 c] 27)) fun e w' => e = .returned (.tuple #[.pointer none, .int .i64 2]) ∧ Below (W.alloc (.cells #[.int .i64 a, .int .i64 b, .int .i64 c] 27)).heap.size (W.alloc (.cells #[.int .i64 a, .int .i64 b, .int .i64 c] 27)) w' :=
  new_choices s r _ [(a, b, c)] _ hs (sc_lit W [(a, b, c)] _ 1 g hg rfl rfl (by decide)) (show 1 ≤ 1099511627776 by decide) (by simp [mayB, hb])
theorem wl_makeZ {w : World} {ops : Array Oper} {rest : List Oper} {o : Oper} {a : Act} {Q : Exit → Act → World → Prop} (n : Nat) (Z : Array Value) (hZ : Z = (choZ n).toArray) (hgd : o.guard = none) (l c : Operand) (ho : o.op = Op.makeSlice 28 l c) (hl : a.eval l = .int .i64 (n : Int)) (hc : a.eval c = .int .i64 (n : Int)) (hn : n ≤ 1048576)
    (h : wpList Try.prog ops Q rest (a.put o.dst (.slice (some ⟨w.heap.size, 0, none⟩) n n)) (w.alloc (.cells Z 27))) : wpList Try.prog ops Q (o :: rest) a w := by
  subst hZ
  exact wl_make n hgd l c ho hl hc hn h
theorem new_bigZ (Z : Array Value) (hZ : Z = (choZ 4097).toArray) (W : World) (g : Nat) (hg : W.heap.size = g) : Calls Try.prog 6 #[.int .i64 4096, .int .i64 1048576, .slice (some ⟨g, 0, none⟩) 4097 4097] (W.alloc (.cells Z 27)) fun e w' => e = .returned (.tuple #[.pointer none, .int .i64 2]) ∧ Below (W.alloc (.cells Z 27)).heap.size (W.alloc (.cells Z 27)) w' := by
  subst hZ
  exact new_big' W g hg
theorem new_fitZ (Z : Array Value) (hZ : Z = (choZ 4096).toArray) (W : World) (g : Nat) (hg : W.heap.size = g) : Calls Try.prog 6 #[.int .i64 4096, .int .i64 1048576, .slice (some ⟨g, 0, none⟩) 4096 4096] (W.alloc (.cells Z 27)) fun e w' => ∃ D, e = .returned (.tuple #[.pointer (some ⟨D, 0, none⟩), .int .i64 0]) ∧ Below (W.alloc (.cells Z 27)).heap.size (W.alloc (.cells Z 27)) w' := by
  subst hZ
  exact new_fit' W g hg
end Go.Proofs.Ytcbglojjbgenlaa
