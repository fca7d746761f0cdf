/- Appends to literals in grown worlds, in any order: blocks by number. -/
import Derived.Test.YtcbglojjbgenlaaGrowApart
namespace Go.Proofs.Ytcbglojjbgenlaa
open Go.RowKit

theorem blk_new {W : World} {o : Obj} {g : Nat} (hg : W.heap.size = g) : (W.alloc o).heap[g]? = some o := heap_new hg
theorem blk_al {W : World} {o : Obj} {g : Nat} {r : Option Obj} (hg : g < W.heap.size) (h : W.heap[g]? = r) : (W.alloc o).heap[g]? = r := (Below.heap_alloc W o g hg).trans h
theorem blk_gr {W : World} {D : Dl} {g : Nat} {r : Option Obj} (hg : g < W.heap.size) (h : W.heap[g]? = r) : (W.gr D).heap[g]? = r := (heap_gr W D g hg).trans h
theorem blk_dr {W : World} {g : Nat} {r : Option Obj} (h : W.heap[g]? = r) : W.drew.heap[g]? = r := h
theorem blk_drn {W : World} {n g : Nat} {r : Option Obj} (h : W.heap[g]? = r) : (W.drewN n).heap[g]? = r := h

theorem own_e {Y : World} {g base : Nat} (h : Y.heap[g]? = some (.cells #[] 5)) (hb : base ≤ g) : OwnB Y base (.slice (some ⟨g, 0, none⟩) 0 0) [] :=
  ⟨by simp, .inr ⟨g, 0, #[], rfl, hb, h, Nat.le_refl _, by simp [maxLen], by simp, by simp⟩⟩

theorem ap_e_grows {Y w' : World} {g base n : Nat} {v' : Value} {xs : List Value} (hap : Appended Y base 5 1 (.slice (some ⟨g, 0, none⟩) 0 0) n xs w' v') (hg : g < Y.heap.size) (hf : Y.heap[g]? = some (.cells #[] 5)) :
    Below Y.heap.size Y w' ∧ (∀ k, v'.ownBlock = some k → k = g ∨ (Y.heap.size ≤ k ∧ k < w'.heap.size)) := by
  rcases hap.2.2 with ⟨h1, h2⟩ | ⟨h1, h2⟩
  · have hgr := hap.2.1
    have hcap : slCap v' = 0 := h2
    refine ⟨⟨hgr.os, hgr.tape, hgr.output, hgr.size, fun k hk => ?_⟩, fun k hk => .inl ?_⟩
    · by_cases e : k = g
      · subst e
        rcases hap.1.2 with ⟨rfl, _⟩ | ⟨g', cap, cur, rfl, _, hh, hn, _, hs, _⟩
        · simp [Value.ownBlock] at h1
        · simp [Value.ownBlock] at h1
          simp [slCap] at hcap
          subst h1 hcap
          rw [hh, hf]
          have : cur = #[] := by cases cur; simp at hs; subst hs; rfl
          rw [this]
      · exact hgr.block k hk (by simp [Value.ownBlock]; exact fun h => e h)
    · rw [h1] at hk
      simpa [Value.ownBlock] using hk.symm
  · exact ⟨h2, fun k hk => by rw [h1] at hk; injection hk with hk; have := (hap.1.lt k (by rw [h1, hk])).2; exact .inr ⟨by omega, this⟩⟩

theorem step_apW {P : Program} {w : World} {ops : Array Oper} {o : Oper} {a : Act} {K : Act → World → Prop} {Q : Exit → Act → World → Prop} {E : Prop} {s x : Operand} {t : TypeId}
    {e : TypeId} {z : Value} {size bytes : Nat} (hT : SlT P t e z size bytes) (hw : Region.wanted o (yielded ops a.tmps) = true)
    (ho : o.op = .call { callee := .builtin .append, args := #[s, x], argTypes := #[t, t] })
    {base : Nat} {v : Value} {n : Nat} {xs : List Value} (hs : a.eval s = v) (hown : w.ownsRow base e size v n xs) {xv : Value} {m : Nat} {news : List Value} (hxv : a.eval x = xv) (hx : Src w size xv m news) (h1 : ∀ u ∈ news, u.oneCell' = true)
    (h63 : n + m ≤ maxLen) (hbytes : (n + m) * bytes ≤ 140737488355328) (hbase : base ≤ w.heap.size)
    (h : ∀ v' w', Appended w base e size v (n + m) (xs ++ news) w' v' → K (a.put o.dst v') w') :
    if Region.wanted o (yielded ops a.tmps) = true then Oper.wp P o a w K Q else E := by
  rw [if_pos hw]
  exact wp_ap hT ho hs hown hxv hx h1 h63 hbytes hbase h

/-- st_e and st_any for an operation that is guarded -/
theorem st_eW {Y : World} {ops : Array Oper} {o : Oper} {a : Act} {K : Act → World → Prop} {Q : Exit → Act → World → Prop} {E : Prop} {s x : Operand} {t : TypeId} (base : Nat)
    (l : List UInt8) (n : Nat) (hln : l.length = n) (hw : Region.wanted o (yielded ops a.tmps) = true) (ho : o.op = .call { callee := .builtin .append, args := #[s, x], argTypes := #[t, t] }) (ht : t = 29)
    {g : Nat} (hs : a.eval s = .slice (some ⟨g, 0, none⟩) 0 0) (hv : Y.heap[g]? = some (.cells #[] 5)) (hbg : base ≤ g) {xv : Value} (hxv : a.eval x = xv) (hx : SB Y xv l) (hl : l.length ≤ 140737488355328)
    (h : ∀ D A c, OwnB (Y.gr D) base (.slice A n c) l → (∀ k, (Value.slice A n c).ownBlock = some k → k = g ∨ (Y.heap.size ≤ k ∧ k < Y.heap.size + D.k)) → n ≤ c → c ≤ 9223372036854775807 → K (a.put o.dst (.slice A n c)) (Y.gr D)) :
    if Region.wanted o (yielded ops a.tmps) = true then Oper.wp Try.prog o a Y K Q else E := by
  subst ht hln
  have hlt : g < Y.heap.size := (Array.getElem?_eq_some_iff.1 hv).1
  refine step_apW (base := base) (n := 0) (xs := []) bytesT hw ho hs (own_e hv hbg) hxv hx.src (bv_one l) (by unfold maxLen; omega) (by omega) (by omega) ?_
  intro v' w' hap
  simp only [Nat.zero_add, List.nil_append] at hap
  obtain ⟨hb, hk⟩ := ap_e_grows hap hlt hv
  obtain ⟨D, rfl⟩ := gr_of_below hb
  have hO : OwnB (Y.gr D) base v' l := OwnB.of hap.1 rfl
  obtain ⟨A, c, rfl, _, h1, h2, _⟩ := hO.form
  rw [size_gr] at hk
  exact h D A c hO hk h1 (by unfold maxLen at h2; omega)
theorem st_anyW {Y W0 : World} {ops : Array Oper} {o : Oper} {a : Act} {K : Act → World → Prop} {Q : Exit → Act → World → Prop} {E : Prop} {s x : Operand} {t : TypeId} {base : Nat}
    (l0 l1 l : List UInt8) (n : Nat) (hll : l0 ++ l1 = l) (hln : l.length = n) (hw : Region.wanted o (yielded ops a.tmps) = true) (ho : o.op = .call { callee := .builtin .append, args := #[s, x], argTypes := #[t, t] }) (ht : t = 29)
    {v : Value} (hs : a.eval s = v) (hv : OwnB Y base v l0) {xv : Value} (hxv : a.eval x = xv) (hx : SB Y xv l1) (hl : l0.length + l1.length ≤ 140737488355328) (hbase : W0.heap.size ≤ base) (hB : Below W0.heap.size W0 Y) (hby : base ≤ Y.heap.size)
    (h : ∀ w' A c, OwnB w' base (.slice A n c) l → Below W0.heap.size W0 w' → (∀ b o u, Y.cell? ⟨b, o, none⟩ = some u → v.ownBlock ≠ some b → w'.cell? ⟨b, o, none⟩ = some u) → K (a.put o.dst (.slice A n c)) w') :
    if Region.wanted o (yielded ops a.tmps) = true then Oper.wp Try.prog o a Y K Q else E := by
  subst ht hll hln
  refine step_apW (base := base) bytesT hw ho hs hv hxv hx.src (bv_one l1) (by unfold maxLen; omega) (by omega) hby ?_
  intro v' w' hap
  rw [← List.map_append] at hap
  have hO : OwnB w' base v' (l0 ++ l1) := OwnB.of hap.1 rfl
  obtain ⟨A, c, rfl, _⟩ := hO.form
  exact h w' A c hO (ap_below hB hap hB.size (fun k hk => Nat.le_trans hbase (own_ge hv k hk))) (fun b o u hc hne => ap_cell hap (fun g hg e => hne (hg.trans (congrArg some e))) hc)

/-- st_anyW for an append whose value is looked at in the same region: what follows is shown at once (the second half), and once more of another value (the first half), for a walk that is to go on with what it knew beforehand -/
theorem st_anyW2 {Y W0 : World} {ops : Array Oper} {o : Oper} {a : Act} {K : Act → World → Prop} {Q : Exit → Act → World → Prop} {E : Prop} {s x : Operand} {t : TypeId} {base : Nat} (vin : Value)
    (l0 l1 l : List UInt8) (n : Nat) (hll : l0 ++ l1 = l) (hln : l.length = n) (hw : Region.wanted o (yielded ops a.tmps) = true) (ho : o.op = .call { callee := .builtin .append, args := #[s, x], argTypes := #[t, t] }) (ht : t = 29)
    {v : Value} (hs : a.eval s = v) (hv : OwnB Y base v l0) {xv : Value} (hxv : a.eval x = xv) (hx : SB Y xv l1) (hl : l0.length + l1.length ≤ 140737488355328) (hbase : W0.heap.size ≤ base) (hB : Below W0.heap.size W0 Y) (hby : base ≤ Y.heap.size)
    (h : ∀ w' A c, OwnB w' base (.slice A n c) l → Below W0.heap.size W0 w' → (∀ b o u, Y.cell? ⟨b, o, none⟩ = some u → v.ownBlock ≠ some b → w'.cell? ⟨b, o, none⟩ = some u) → K (a.put o.dst (.slice A n c)) w' ∧ K (a.put o.dst vin) w') :
    if Region.wanted o (yielded ops a.tmps) = true then Oper.wp Try.prog o a Y K Q else E :=
  st_anyW l0 l1 l n hll hln hw ho ht hs hv hxv hx hl hbase hB hby fun w' A c h1 h2 h3 => (h w' A c h1 h2 h3).1

theorem st_e {Y : World} {ops : Array Oper} {o : Oper} {a : Act} {K : Act → World → Prop} {Q : Exit → Act → World → Prop} {E : Prop} {s x : Operand} {t : TypeId} (base : Nat)
    (l : List UInt8) (n : Nat) (hln : l.length = n) (hgd : o.guard = none) (ho : o.op = .call { callee := .builtin .append, args := #[s, x], argTypes := #[t, t] }) (ht : t = 29)
    {g : Nat} (hs : a.eval s = .slice (some ⟨g, 0, none⟩) 0 0) (hv : Y.heap[g]? = some (.cells #[] 5)) (hbg : base ≤ g) {xv : Value} (hxv : a.eval x = xv) (hx : SB Y xv l) (hl : l.length ≤ 140737488355328)
    (h : ∀ D A c, OwnB (Y.gr D) base (.slice A n c) l → (∀ k, (Value.slice A n c).ownBlock = some k → k = g ∨ (Y.heap.size ≤ k ∧ k < Y.heap.size + D.k)) → n ≤ c → c ≤ 9223372036854775807 → K (a.put o.dst (.slice A n c)) (Y.gr D)) :
    if Region.wanted o (yielded ops a.tmps) = true then Oper.wp Try.prog o a Y K Q else E := by
  subst ht hln
  have hlt : g < Y.heap.size := (Array.getElem?_eq_some_iff.1 hv).1
  refine step_ap (base := base) (n := 0) (xs := []) bytesT hgd ho hs (own_e hv hbg) hxv hx.src (bv_one l) (by unfold maxLen; omega) (by omega) (by omega) ?_
  intro v' w' hap
  simp only [Nat.zero_add, List.nil_append] at hap
  obtain ⟨hb, hk⟩ := ap_e_grows hap hlt hv
  obtain ⟨D, rfl⟩ := gr_of_below hb
  have hO : OwnB (Y.gr D) base v' l := OwnB.of hap.1 rfl
  obtain ⟨A, c, rfl, _, h1, h2, _⟩ := hO.form
  rw [size_gr] at hk
  exact h D A c hO hk h1 (by unfold maxLen at h2; omega)
theorem ap_e {Y : World} {ops : Array Oper} {rest : List Oper} {o : Oper} {a : Act} {Q : Exit → Act → World → Prop} {s x : Operand} {t : TypeId} (base : Nat)
    (l : List UInt8) (n : Nat) (hln : l.length = n) (hgd : o.guard = none) (ho : o.op = .call { callee := .builtin .append, args := #[s, x], argTypes := #[t, t] }) (ht : t = 29)
    {g : Nat} (hs : a.eval s = .slice (some ⟨g, 0, none⟩) 0 0) (hv : Y.heap[g]? = some (.cells #[] 5)) (hbg : base ≤ g) {xv : Value} (hxv : a.eval x = xv) (hx : SB Y xv l) (hl : l.length ≤ 140737488355328)
    (h : ∀ D A c, OwnB (Y.gr D) base (.slice A n c) l → (∀ k, (Value.slice A n c).ownBlock = some k → k = g ∨ (Y.heap.size ≤ k ∧ k < Y.heap.size + D.k)) → n ≤ c → c ≤ 9223372036854775807 → wpList Try.prog ops Q rest (a.put o.dst (.slice A n c)) (Y.gr D)) :
    wpList Try.prog ops Q (o :: rest) a Y := by
  subst ht hln
  have hlt : g < Y.heap.size := (Array.getElem?_eq_some_iff.1 hv).1
  refine wpList_ap (base := base) (n := 0) (xs := []) bytesT hgd ho hs (own_e hv hbg) hxv hx.src (bv_one l) (by unfold maxLen; omega) (by omega) (by omega) ?_
  intro v' w' hap
  simp only [Nat.zero_add, List.nil_append] at hap
  obtain ⟨hb, hk⟩ := ap_e_grows hap hlt hv
  obtain ⟨D, rfl⟩ := gr_of_below hb
  have hO : OwnB (Y.gr D) base v' l := OwnB.of hap.1 rfl
  obtain ⟨A, c, rfl, _, h1, h2, _⟩ := hO.form
  rw [size_gr] at hk
  exact h D A c hO hk h1 (by unfold maxLen at h2; omega)
end Go.Proofs.Ytcbglojjbgenlaa
