/- Appends to byte slices in a world that has grown. -/
import Derived.Test.YtcbglojjbgenlaaNib
import Derived.Test.YtcbglojjbgenlaaGrow
import Derived.Deep.DeepMust
import Derived.Lib.SmallJoins
namespace Go.Proofs.Ytcbglojjbgenlaa
open Go.RowKit
/-- append onto a literal that has just been laid: the literal's block is forgotten -/
theorem ap_new {W : World} {ops : Array Oper} {rest : List Oper} {o : Oper} {a : Act} {Q : Exit → Act → World → Prop} {s x : Operand} {t : TypeId} {cs : Array Value}
    (l0 l1 l : List UInt8) (n : Nat) (hll : l0 ++ l1 = l) (hln : l.length = n) (hgd : o.guard = none) (ho : o.op = .call { callee := .builtin .append, args := #[s, x], argTypes := #[t, t] }) (ht : t = 29) {te : TypeId} (hte : te = 5)
    {g k c0 : Nat} (hs : a.eval s = .slice (some ⟨g, 0, none⟩) k c0) (hg : W.heap.size = g) (hcs : cs.toList = l0.map bv) (hk : l0.length = k) (hc0 : c0 = k) {xv : Value} (hxv : a.eval x = xv) (hx : SB (W.alloc (.cells cs te)) xv l1) (hl : l0.length + l1.length ≤ 140737488355328)
    (h : ∀ D A c, (∀ W', At W.heap.size D W' → OwnB W' W.heap.size (.slice A n c) l) → n ≤ c → c ≤ 9223372036854775807 → wpList Try.prog ops Q rest (a.put o.dst (.slice A n c)) (W.gr D)) :
    wpList Try.prog ops Q (o :: rest) a (W.alloc (.cells cs te)) := by
  subst ht hte hc0 hll hln
  have hsz : cs.size = l0.length * 1 := by rw [← Array.length_toList, hcs]; simp
  refine wpList_ap (base := W.heap.size) bytesT hgd ho hs (by subst hg hk; exact own_lit W cs 5 (n := l0.length) (Nat.le_refl _) (by unfold maxLen; omega) hsz) hxv hx.src (bv_one l1) (by unfold maxLen; omega) (by omega) (by simp) ?_
  intro v' w' hap
  rw [hcs, ← List.map_append] at hap
  obtain ⟨D, rfl⟩ := gr_of_below (ap_below (B := W.heap.size) (bg_al (Below.refl _ _)) hap (by simp) (fun k hk => by simp [Value.ownBlock] at hk; omega))
  have hO : OwnB (W.gr D) W.heap.size v' (l0 ++ l1) := OwnB.of hap.1 rfl
  obtain ⟨A, c, rfl, _, h1, h2, _⟩ := hO.form
  exact h D A c (ownB_at hO) h1 (by unfold maxLen at h2; omega)
/-- append onto a row that the last growth has brought -/
theorem ap_own {W : World} {D0 : Dl} {ops : Array Oper} {rest : List Oper} {o : Oper} {a : Act} {Q : Exit → Act → World → Prop} {s x : Operand} {t : TypeId}
    (l0 l1 l : List UInt8) (n : Nat) (hll : l0 ++ l1 = l) (hln : l.length = n) (hgd : o.guard = none) (ho : o.op = .call { callee := .builtin .append, args := #[s, x], argTypes := #[t, t] }) (ht : t = 29)
    {v : Value} (hs : a.eval s = v) (hv : OwnB (W.gr D0) W.heap.size v l0) {xv : Value} (hxv : a.eval x = xv) (hx : SB (W.gr D0) xv l1) (hl : l0.length + l1.length ≤ 140737488355328)
    (h : ∀ D A c, (∀ W', At W.heap.size D W' → OwnB W' W.heap.size (.slice A n c) l) → n ≤ c → c ≤ 9223372036854775807 → wpList Try.prog ops Q rest (a.put o.dst (.slice A n c)) (W.gr D)) :
    wpList Try.prog ops Q (o :: rest) a (W.gr D0) := by
  subst ht hll hln
  refine wpList_ap (base := W.heap.size) bytesT hgd ho hs hv hxv hx.src (bv_one l1) (by unfold maxLen; omega) (by omega) (by rw [size_gr]; omega) ?_
  intro v' w' hap
  rw [← List.map_append] at hap
  obtain ⟨D, rfl⟩ := gr_of_below (ap_below (B := W.heap.size) (below_gr W D0) hap (by rw [size_gr]; omega) (own_ge hv))
  have hO : OwnB (W.gr D) W.heap.size v' (l0 ++ l1) := OwnB.of hap.1 rfl
  obtain ⟨A, c, rfl, _, h1, h2, _⟩ := hO.form
  exact h D A c (ownB_at hO) h1 (by unfold maxLen at h2; omega)
theorem st_own {W : World} {D0 : Dl} {ops : Array Oper} {o : Oper} {a : Act} {K : Act → World → Prop} {Q : Exit → Act → World → Prop} {E : Prop} {s x : Operand} {t : TypeId}
    (l0 l1 l : List UInt8) (n : Nat) (hll : l0 ++ l1 = l) (hln : l.length = n) (hgd : o.guard = none) (ho : o.op = .call { callee := .builtin .append, args := #[s, x], argTypes := #[t, t] }) (ht : t = 29)
    {v : Value} (hs : a.eval s = v) (hv : OwnB (W.gr D0) W.heap.size v l0) {xv : Value} (hxv : a.eval x = xv) (hx : SB (W.gr D0) xv l1) (hl : l0.length + l1.length ≤ 140737488355328)
    (h : ∀ D A c, (∀ W', At W.heap.size D W' → OwnB W' W.heap.size (.slice A n c) l) → n ≤ c → c ≤ 9223372036854775807 → K (a.put o.dst (.slice A n c)) (W.gr D)) :
    if Region.wanted o (yielded ops a.tmps) = true then Oper.wp Try.prog o a (W.gr D0) K Q else E := by
  subst ht hll hln
  refine step_ap (base := W.heap.size) bytesT hgd ho hs hv hxv hx.src (bv_one l1) (by unfold maxLen; omega) (by omega) (by rw [size_gr]; omega) ?_
  intro v' w' hap
  rw [← List.map_append] at hap
  obtain ⟨D, rfl⟩ := gr_of_below (ap_below (B := W.heap.size) (below_gr W D0) hap (by rw [size_gr]; omega) (own_ge hv))
  have hO : OwnB (W.gr D) W.heap.size v' (l0 ++ l1) := OwnB.of hap.1 rfl
  obtain ⟨A, c, rfl, _, h1, h2, _⟩ := hO.form
  exact h D A c (ownB_at hO) h1 (by unfold maxLen at h2; omega)
theorem st_any {Y W0 : World} {ops : Array Oper} {o : Oper} {a : Act} {K : Act → World → Prop} {Q : Exit → Act → World → Prop} {E : Prop} {s x : Operand} {t : TypeId} {base : Nat}
    (l0 l1 l : List UInt8) (n : Nat) (hll : l0 ++ l1 = l) (hln : l.length = n) (hgd : o.guard = none) (ho : o.op = .call { callee := .builtin .append, args := #[s, x], argTypes := #[t, t] }) (ht : t = 29)
    {v : Value} (hs : a.eval s = v) (hv : OwnB Y base v l0) {xv : Value} (hxv : a.eval x = xv) (hx : SB Y xv l1) (hl : l0.length + l1.length ≤ 140737488355328) (hbase : W0.heap.size ≤ base) (hB : Below W0.heap.size W0 Y) (hby : base ≤ Y.heap.size)
    (h : ∀ w' A c, OwnB w' base (.slice A n c) l → Below W0.heap.size W0 w' → (∀ b o u, Y.cell? ⟨b, o, none⟩ = some u → v.ownBlock ≠ some b → w'.cell? ⟨b, o, none⟩ = some u) → K (a.put o.dst (.slice A n c)) w') :
    if Region.wanted o (yielded ops a.tmps) = true then Oper.wp Try.prog o a Y K Q else E := by
  subst ht hll hln
  refine step_ap (base := base) bytesT hgd ho hs hv hxv hx.src (bv_one l1) (by unfold maxLen; omega) (by omega) hby ?_
  intro v' w' hap
  rw [← List.map_append] at hap
  have hO : OwnB w' base v' (l0 ++ l1) := OwnB.of hap.1 rfl
  obtain ⟨A, c, rfl, _⟩ := hO.form
  exact h w' A c hO (ap_below hB hap hB.size (fun k hk => Nat.le_trans hbase (own_ge hv k hk))) (fun b o u hc hne => ap_cell hap (fun g hg e => hne (hg.trans (congrArg some e))) hc)
theorem convS {w : World} {v : Value} {l : List UInt8} (h : SB w v l) : (convert 29 9 v).run Try.prog w = .ok (.string ⟨l.toArray⟩) w := by
  obtain ⟨A, c, rfl, h, -⟩ := h
  cases A with
  | none =>
    have hn : l = [] := by
      cases l with
      | nil => rfl
      | cons a r => obtain ⟨b, off, e, _⟩ := h 0 (by simp); cases e
    subst hn
    rw [run_convert_bytes_string w 29 9 5 none _ c Try.underlying29 Try.underlying5 Try.underlying9]
    rfl
  | some a =>
    refine run_convert_bytes_back (P := Try.prog) w 29 9 5 a c l Try.underlying29 Try.underlying5 Try.underlying9 (fun j hj => ?_)
    obtain ⟨b, off, e, hc⟩ := h j hj
    injection e with e
    subst e
    rw [addr_add]
    exact hc
theorem wpList_conv {w : World} {ops : Array Oper} {rest : List Oper} {o : Oper} {a : Act} {Q : Exit → Act → World → Prop} {x : Operand} {t s : TypeId}
    (hgd : o.guard = none) (ho : o.op = .convert t s x) (ht : t = 29) (hs : s = 9) {v : Value} (hx : a.eval x = v) {l : List UInt8} (h : SB w v l) (hk : wpList Try.prog ops Q rest (a.put o.dst (.string ⟨l.toArray⟩)) w) :
    wpList Try.prog ops Q (o :: rest) a w :=
  wpList_plain hgd fun K hK => by
    subst ht hs
    unfold Oper.wp execOp
    simp only [ho, hx, Sem.run_bind, convS h, Result.andThen_ok, Sem.run_pure]
    exact hK _ _ hk
theorem own_lit0 {X : World} {g n base : Nat} {cs : Array Value} {l : List UInt8} (hg : X.heap.size = g) (hcs : cs.toList = l.map bv) (hn : l.length = n) (hm : n ≤ 1099511627776) (hb : base ≤ X.heap.size) : OwnB (X.alloc (.cells cs 5)) base (.slice (some ⟨g, 0, none⟩) n n) l := by
  subst hg hn
  have hsz : cs.size = l.length * 1 := by rw [← Array.length_toList, hcs]; simp
  exact OwnB.of (l := l) (own_lit X cs 5 (size := 1) (n := l.length) hb (by unfold maxLen; omega) hsz) hcs
theorem sb_lit {X : World} {g n : Nat} {cs : Array Value} {l : List UInt8} {e : TypeId} {fr : Nat × Nat} (hg : X.heap.size = g) (hcs : cs.toList = l.map bv) (hn : l.length = n) (hm : n ≤ 1099511627776) : SB (X.alloc (.cells cs e fr)) (.slice (some ⟨g, 0, none⟩) n n) l := by
  subst hg hn
  refine ⟨_, _, rfl, fun k hk => ⟨_, 0, rfl, ?_⟩, Nat.le_refl _, by unfold maxLen; omega, fun e => by cases e⟩
  rw [cell_of_row _ X.heap.size (0 + k) _ _ _ (heap_alloc_new X _), Nat.zero_add, ← Array.getElem?_toList, hcs, List.getElem?_map, List.getElem?_eq_getElem hk]
  rfl
theorem conv_const (w : World) (C : Array Value) (n c g : Nat) (hg : g = w.heap.size) : (convert 29 29 (.slice (some ⟨g, 0, none⟩) n c)).run Try.prog (w.alloc (.cells C 5)) = .ok (.slice (some ⟨g, 0, none⟩) n c) (w.alloc (.cells C 5 (C.size, C.size + 1))) :=
  Joins.run_convert_bytes_const_at (P := Try.prog) w 29 5 C n c g hg Try.underlying29 Try.underlying5
/-- append onto an own row anywhere: all other cells are as they were -/
theorem ap_any {Y W0 : World} {ops : Array Oper} {rest : List Oper} {o : Oper} {a : Act} {Q : Exit → Act → World → Prop} {s x : Operand} {t : TypeId} {base : Nat}
    (l0 l1 l : List UInt8) (n : Nat) (hll : l0 ++ l1 = l) (hln : l.length = n) (hgd : o.guard = none) (ho : o.op = .call { callee := .builtin .append, args := #[s, x], argTypes := #[t, t] }) (ht : t = 29)
    {v : Value} (hs : a.eval s = v) (hv : OwnB Y base v l0) {xv : Value} (hxv : a.eval x = xv) (hx : SB Y xv l1) (hl : l0.length + l1.length ≤ 140737488355328) (hbase : W0.heap.size ≤ base) (hB : Below W0.heap.size W0 Y) (hby : base ≤ Y.heap.size)
    (h : ∀ w' A c, OwnB w' base (.slice A n c) l → Below W0.heap.size W0 w' → (∀ b o u, Y.cell? ⟨b, o, none⟩ = some u → v.ownBlock ≠ some b → w'.cell? ⟨b, o, none⟩ = some u) → wpList Try.prog ops Q rest (a.put o.dst (.slice A n c)) w') :
    wpList Try.prog ops Q (o :: rest) a Y := by
  subst ht hll hln
  refine wpList_ap (base := base) bytesT hgd ho hs hv hxv hx.src (bv_one l1) (by unfold maxLen; omega) (by omega) hby ?_
  intro v' w' hap
  rw [← List.map_append] at hap
  have hO : OwnB w' base v' (l0 ++ l1) := OwnB.of hap.1 rfl
  obtain ⟨A, c, rfl, _⟩ := hO.form
  exact h w' A c hO (ap_below hB hap hB.size (fun k hk => Nat.le_trans hbase (own_ge hv k hk))) (fun b o u hc hne => ap_cell hap (fun g hg e => hne (hg.trans (congrArg some e))) hc)
def zeros (n : Nat) : List UInt8 := List.replicate n 0
theorem zeros_len (n : Nat) : (zeros n).length = n := by simp [zeros]
/-- what make lays for n bytes -/
def zObj (n : Nat) : Obj := .cells (madeCells (Value.int .u8 0).cells (n * 1)) 5
theorem made_u8 (n : Nat) : (madeCells (Value.int .u8 0).cells (n * 1)).toList = (zeros n).map bv := by
  rw [Nat.mul_one]
  refine (toList_madeCells_one _ n).trans ?_
  simp [zeros, bv]
theorem make_z (n : Nat) (hn : n ≤ 1099511627776) (w : World) : (Instr.makeSlice 29 (.int .i64 (n : Int)) (.int .i64 (n : Int))).run Try.prog w = .ok (.slice (some ⟨w.heap.size, 0, none⟩) n n) (w.alloc (zObj n)) := by
  obtain ⟨i, hi, hz, hs, hby⟩ := info_parts bytesT.info
  have := run_make (P := Try.prog) w 29 5 i _ bytesT.und hi hz .i64 .i64 (n : Int) (n : Int) (by omega) (Int.le_refl _) (by rw [hby]; omega) (by omega)
  rw [hs] at this
  exact this
theorem own_z (w : World) (n : Nat) (hn : n ≤ 1099511627776) {g : Nat} (hg : w.heap.size = g) : OwnB (w.alloc (zObj n)) g (.slice (some ⟨g, 0, none⟩) n n) (zeros n) := by
  subst hg
  refine OwnB.of (own_lit w _ 5 (n := n) (size := 1) (Nat.le_refl _) (by unfold maxLen; omega) ?_) (made_u8 n)
  have := congrArg List.length (made_u8 n)
  simpa [zeros] using this
end Go.Proofs.Ytcbglojjbgenlaa
