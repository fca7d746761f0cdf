/- Words for memory that all my walks use: a byte slice that reads as a list, rows that the call owns, appends to them. Generic: no program in sight. -/
import Derived.WalkKit
import Derived.WalkSpells
import Derived.WalkLawsBesides
import Derived.Deep.QuietTactic
import Derived.BigQuiet
import Derived.Deep.Draws
import Derived.Deep.RegionHeld3
import Derived.Deep.RegionLaw
import Derived.Deep.DrawnRows
import Derived.Deep.AppendLies
import Derived.Maps.AppendAt
import Derived.Lib.Hide
namespace Go.Proofs.Ytcbglojjbgenlaa
open Go.RowKit

/-- A byte as a value. -/
def bv (x : UInt8) : Value := .int .u8 ((x.toNat : Nat) : Int)

/-- The address A leads to cells that read as the bytes l. -/
def RdB (w : World) (A : Option Addr) (l : List UInt8) : Prop :=
  ∀ k (h : k < l.length), ∃ b off, A = some ⟨b, off, none⟩ ∧ w.cell? ⟨b, off + k, none⟩ = some (.int .u8 ((l[k].toNat : Nat) : Int))

/-- A slice value that reads as the bytes l. -/
def SB (w : World) (v : Value) (l : List UInt8) : Prop :=
  ∃ A c, v = .slice A l.length c ∧ RdB w A l ∧ l.length ≤ c ∧ c ≤ maxLen ∧ (A = none → c = 0)

theorem addr_add (b off k : Nat) : (⟨b, off, none⟩ : Addr).add k = ⟨b, off + k, none⟩ := by
  unfold Addr.add; split <;> simp_all

theorem RdB.nil (w : World) (A : Option Addr) : RdB w A [] := fun k h => by simp at h
theorem RdB.keep {w w' : World} {A : Option Addr} {l : List UInt8} (h : RdB w A l) (hk : ∀ b o u, w.cell? ⟨b, o, none⟩ = some u → w'.cell? ⟨b, o, none⟩ = some u) : RdB w' A l := fun k hl => by
  obtain ⟨b, off, e, hc⟩ := h k hl
  exact ⟨b, off, e, hk _ _ _ hc⟩
theorem RdB.drewN {w : World} {A : Option Addr} {l : List UInt8} (h : RdB w A l) (n : Nat) : RdB (w.drewN n) A l := h
theorem RdB.drew {w : World} {A : Option Addr} {l : List UInt8} (h : RdB w A l) : RdB w.drew A l := h
theorem RdB.below {w w' : World} {A : Option Addr} {l : List UInt8} (h : RdB w A l) (hb : Below w.heap.size w w') : RdB w' A l :=
  h.keep fun b o u hc => by rw [hb.cell (World.block_lt_of_cell? w _ hc)]; exact hc
theorem RdB.alloc {w : World} {A : Option Addr} {l : List UInt8} (h : RdB w A l) (o : Obj) : RdB (w.alloc o) A l :=
  h.below ((Below.refl _ _).alloc (Nat.le_refl _) o)
theorem SB.keep {w w' : World} {v : Value} {l : List UInt8} (h : SB w v l) (hk : ∀ b o u, w.cell? ⟨b, o, none⟩ = some u → w'.cell? ⟨b, o, none⟩ = some u) : SB w' v l := by
  obtain ⟨A, c, rfl, hr, h1, h2⟩ := h
  exact ⟨A, c, rfl, hr.keep hk, h1, h2⟩
theorem SB.below {w w' : World} {v : Value} {l : List UInt8} (h : SB w v l) (hb : Below w.heap.size w w') : SB w' v l := by
  obtain ⟨A, c, rfl, hr, h1, h2⟩ := h
  exact ⟨A, c, rfl, hr.below hb, h1, h2⟩
theorem SB.nil (w : World) : SB w (.slice none 0 0) [] := ⟨none, 0, rfl, RdB.nil _ _, by simp, by simp [maxLen], fun _ => rfl⟩
theorem SB.drewN {w : World} {v : Value} {l : List UInt8} (h : SB w v l) (n : Nat) : SB (w.drewN n) v l := h
theorem SB.drew {w : World} {v : Value} {l : List UInt8} (h : SB w v l) : SB w.drew v l := h

/-- Below over the heap's size of an elder world. -/
theorem bel_trans {w a b : World} (h : Below w.heap.size w a) (k : Below a.heap.size a b) : Below w.heap.size w b := h.trans (k.mono h.size)
theorem bel_drewN {B : Nat} {a w : World} (h : Below B a w) (n : Nat) : Below B a (w.drewN n) := ⟨h.os, h.tape, h.output, h.size, h.block⟩
theorem bel_quiet {w w' : World} (h : ∃ n, w' = w.drewN n) : Below w.heap.size w w' := by
  obtain ⟨n, rfl⟩ := h
  exact bel_drewN (Below.refl _ _) n

/-- The slice type t has elements of type e; e's zero is z, of so many cells and bytes. -/
structure SlT (P : Program) (t e : TypeId) (z : Value) (size bytes : Nat) : Prop where
  und : P.underlying t = some (.slice e)
  info : (P.info? e).map (fun i => (i.zero, i.size, i.bytes)) = some (some z, size, bytes)
  zs : z.cells.size = size
  pos : 0 < size

/-- The slice value x leads to m elements, the cells news. -/
def Src (w : World) (size : Nat) (x : Value) (m : Nat) (news : List Value) : Prop :=
  ∃ A c, x = .slice A m c ∧ news.length = m * size ∧ ∀ j u, news[j]? = some u → ∃ ad, A = some ad ∧ w.cell? (ad.add j) = some u

theorem Src.own {w : World} {base : Nat} {e : TypeId} {size : Nat} {v : Value} {n : Nat} {xs : List Value} (h : w.ownsRow base e size v n xs) : Src w size v n xs := by
  rcases h.2 with ⟨rfl, rfl⟩ | ⟨g, cap, cur, rfl, hb, hg, hn, hm, hc, ht⟩
  · have hx : xs = [] := List.eq_nil_of_length_eq_zero (by simpa using h.1)
    subst hx
    exact ⟨none, 0, rfl, by simp, fun j u hj => by simp at hj⟩
  · exact ⟨some ⟨g, 0, none⟩, cap, rfl, h.1, fun j u hj => ⟨_, rfl, h.cells (g := g) rfl j u hj⟩⟩

theorem Src.below {w w' : World} {size : Nat} {x : Value} {m : Nat} {news : List Value} (h : Src w size x m news) (hb : Below w.heap.size w w') : Src w' size x m news := by
  obtain ⟨A, c, rfl, hl, hn⟩ := h
  refine ⟨A, c, rfl, hl, fun j u hj => ?_⟩
  obtain ⟨ad, e, hc⟩ := hn j u hj
  exact ⟨ad, e, by rw [hb.cell (World.block_lt_of_cell? w _ hc)]; exact hc⟩
theorem SB.src {w : World} {v : Value} {l : List UInt8} (h : SB w v l) : Src w 1 v l.length (l.map bv) := by
  obtain ⟨A, c, rfl, hr, _, _⟩ := h
  refine ⟨A, c, rfl, by simp, fun j u hj => ?_⟩
  have hjl : j < l.length := by have := (List.getElem?_eq_some_iff.1 hj).1; simpa using this
  obtain ⟨b, off, e, hc⟩ := hr j hjl
  refine ⟨_, e, ?_⟩
  rw [addr_add, hc]
  rw [List.getElem?_map, List.getElem?_eq_getElem hjl] at hj
  simpa [bv] using hj

theorem Src.block {w : World} {g : Nat} {cs : Array Value} {t : TypeId} {fr : Nat × Nat} {size m c : Nat} (h : w.heap[g]? = some (.cells cs t fr)) (hl : cs.size = m * size) :
    Src w size (.slice (some ⟨g, 0, none⟩) m c) m cs.toList := by
  refine ⟨_, _, rfl, by simpa using hl, fun j u hj => ⟨_, rfl, ?_⟩⟩
  rw [addr_add, Nat.zero_add, cell_of_row w g j cs t fr h]
  simpa using hj

theorem bv_one (l : List UInt8) : ∀ u ∈ l.map bv, u.oneCell' = true := by
  intro u hu
  obtain ⟨x, _, rfl⟩ := List.mem_map.1 hu
  rfl

/-- The capacity of a slice. -/
def slCap : Value → Nat | .slice _ _ c => c | _ => 0

/-- What an append leaves: in place, or in a new row. -/
def Appended (w : World) (base : Nat) (e : TypeId) (size : Nat) (v : Value) (n : Nat) (xs : List Value) (w' : World) (v' : Value) : Prop :=
  w'.ownsRow base e size v' n xs ∧ w.grownBy w' v.ownBlock ∧ ((v'.ownBlock = v.ownBlock ∧ slCap v' = slCap v) ∨ (v'.ownBlock = some w.heap.size ∧ Below w.heap.size w w'))

theorem grown_row {P : Program} {w : World} {base : Nat} {e : TypeId} {i : TypeInfo} {z : Value} (hzs : z.cells.size = i.size)
    {v : Value} {n m : Nat} {xs news : List Value} (hx : xs.length = n * i.size) (hl : news.length = m * i.size) (h63 : n + m ≤ maxLen) (hbase : base ≤ w.heap.size) (old : Nat) (_hP : P = P) :
    Appended w base e i.size v (n + m) (xs ++ news) (w.drew.alloc (.cells (xs.toArray ++ news.toArray ++ Builtin.zeroCells z.cells (grownCap w (n + m) old e - (n + m))) e)) (.slice (some ⟨w.heap.size, 0, none⟩) (n + m) (grownCap w (n + m) old e)) := by
  have hge := grownCap_ge w (n + m) old e
  have hcm : grownCap w (n + m) old e ≤ maxLen := grownCap_le_maxLen w (n + m) old e h63
  have hlen : (xs ++ news).length = (n + m) * i.size := by rw [List.length_append, hx, hl, Nat.add_mul]
  refine ⟨⟨hlen, .inr ⟨w.heap.size, _, _, rfl, hbase, heap_alloc_new w.drew _, hge, hcm, ?_, ?_⟩⟩, ⟨rfl, rfl, rfl, by simp, fun k hk _ => Below.heap_alloc w.drew _ k hk⟩, .inr ⟨rfl, ⟨rfl, rfl, rfl, by simp, fun k hk => Below.heap_alloc w.drew _ k hk⟩⟩⟩
  · simp only [Array.size_append, List.size_toArray, size_zeroCells, hzs, hx, hl, ← Nat.add_mul]
    congr 1
    omega
  · simp only [Array.toList_append, List.append_assoc]
    rw [← List.append_assoc, ← hlen]
    exact List.take_left

theorem run_append_src {P : Program} (w : World) (base : Nat) (t ty e : TypeId) (z : Value) (size bytes : Nat) (hT : SlT P t e z size bytes)
    (v : Value) (n : Nat) (xs : List Value) (hown : w.ownsRow base e size v n xs) (x : Value) (m : Nat) (news : List Value) (hx : Src w size x m news) (h1 : ∀ u ∈ news, u.oneCell' = true)
    (h63 : n + m ≤ maxLen) (hbytes : (n + m) * bytes ≤ 140737488355328) (hbase : base ≤ w.heap.size) :
    ∃ v' w', (Builtin.append_ #[t, t] ty #[v, x]).run P w = .ok v' w' ∧ Appended w base e size v (n + m) (xs ++ news) w' v' := by
  obtain ⟨i, hi, hz, hs, hby⟩ := info_parts hT.info
  have hzs := hT.zs
  have hpos := hT.pos
  subst hs
  subst hby
  have hsmall : n + m ≤ 9223372036854775807 := by simp only [maxLen] at h63; omega
  have keep : ∀ v : Value, w.ownsRow base e i.size v n xs → Appended w base e i.size v (n + 0) (xs ++ []) w v := fun v hv => ⟨by simpa using hv, World.grownBy.refl w _, .inl ⟨rfl, rfl⟩⟩
  obtain ⟨A, c, rfl, hl, hn⟩ := hx
  cases A with
  | none =>
    have hnews : news = [] := by
      cases news with
      | nil => rfl
      | cons a r => obtain ⟨ad, h, _⟩ := hn 0 a rfl; cases h
    subst hnews
    have hm : m = 0 := by
      have h0 : m * i.size = 0 := hl.symm
      rcases Nat.mul_eq_zero.1 h0 with h | h
      · exact h
      · omega
    subst hm
    refine ⟨v, w, ?_, keep v hown⟩
    rcases hown.2 with ⟨rfl, rfl⟩ | ⟨g, cap, cur, rfl, _, _, hnc, _⟩
    · simp [Builtin.append_, run_underlying hT.und, sizeOf, typeInfo, hi, Builtin.lenOf, Builtin.firstCells]
    · simp [Builtin.append_, run_underlying hT.und, sizeOf, typeInfo, hi, Builtin.lenOf, Builtin.firstCells, hnc, storeCells]
  | some a =>
    have hnews : ∀ j u, news[j]? = some u → w.cell? (a.add j) = some u := fun j u hj => by
      obtain ⟨ad', h, hc⟩ := hn j u hj
      cases h
      exact hc
    rcases hown.2 with ⟨rfl, rfl⟩ | ⟨g, cap, cur, rfl, hbg, hg, hnc, hcm, hcs, htake⟩
    · have hx0 : xs = [] := List.eq_nil_of_length_eq_zero (by simpa using hown.1)
      subst hx0
      by_cases hm : m = 0
      · subst hm
        have hn0 : news = [] := List.eq_nil_of_length_eq_zero (by simpa using hl)
        subst hn0
        refine ⟨.slice none 0 0, w, ?_, keep _ hown⟩
        simp [Builtin.append_, run_underlying hT.und, sizeOf, typeInfo, hi, Builtin.lenOf, Builtin.firstCells, loadCells, loadCellsFrom]
      · have hr := run_append_nil (P := P) w t ty e i z hT.und hi hz a m c news hl hnews (by omega) (by omega) (by have hb := hbytes; simp only [Nat.zero_add] at hb; omega)
        have hgr := grown_row (P := P) (w := w) (base := base) (e := e) (v := .slice none 0 0) hzs (n := 0) (xs := []) (by simp) hl h63 hbase 0 rfl
        simp only [Nat.zero_add, List.nil_append, Array.empty_append] at hgr ⊢
        exact ⟨_, _, hr, hgr⟩
    · by_cases hroom : n + m ≤ cap
      · have hfit : n * i.size + news.length ≤ cur.size := by rw [hl, hcs, ← Nat.add_mul]; exact Nat.mul_le_mul_right _ hroom
        have hr := run_append_room (P := P) w t ty e i hT.und hi g n cap cur hg a m c news hl hnews h1 hroom hfit
        have hlen : (xs ++ news).length = (n + m) * i.size := by rw [List.length_append, hown.1, hl, Nat.add_mul]
        refine ⟨_, _, hr, ⟨hlen, .inr ⟨g, cap, _, rfl, hbg, setRow_heap w g cur _ e _ hg, hroom, hcm, ?_, ?_⟩⟩, ⟨rfl, rfl, rfl, by simp, fun k _ hk => setRow_other w g k _ (fun e => hk (by simp [Value.ownBlock, e]))⟩, .inl ⟨rfl, rfl⟩⟩
        · simp only [List.size_toArray, List.length_append, List.length_take, List.length_drop, Array.length_toList]
          omega
        · rw [htake, ← hlen]
          exact List.take_left
      · have holds : ∀ j u, xs[j]? = some u → w.cell? ((⟨g, 0, none⟩ : Addr).add j) = some u := hown.cells (g := g) rfl
        have hr := run_append_grow (P := P) w t ty e i z hT.und hi hz ⟨g, 0, none⟩ n cap xs hown.1 holds a m c news hl hnews (by omega) (by omega) (growslice_fits (by omega) hbytes)
        exact ⟨_, _, hr, grown_row (P := P) hzs hown.1 hl h63 hbase cap rfl⟩

theorem wp_ap {P : Program} {w : World} {o : Oper} {a : Act} {K : Act → World → Prop} {Q : Exit → Act → World → Prop} {s x : Operand} {t : TypeId}
    {e : TypeId} {z : Value} {size bytes : Nat} (hT : SlT P t e z size bytes)
    (ho : o.op = .call { callee := .builtin .append, args := #[s, x], argTypes := #[t, t] })
    {base : Nat} {v : Value} {n : Nat} {xs : List Value} (hs : a.eval s = v) (hown : w.ownsRow base e size v n xs) {xv : Value} {m : Nat} {news : List Value} (hxv : a.eval x = xv) (hx : Src w size xv m news) (h1 : ∀ u ∈ news, u.oneCell' = true)
    (h63 : n + m ≤ maxLen) (hbytes : (n + m) * bytes ≤ 140737488355328) (hbase : base ≤ w.heap.size)
    (h : ∀ v' w', Appended w base e size v (n + m) (xs ++ news) w' v' → K (a.put o.dst v') w') : o.wp P a w K Q := by
  obtain ⟨v', w', hrun, h2⟩ := run_append_src w base t o.type e z size bytes hT v n xs hown xv m news hx h1 h63 hbytes hbase
  unfold Oper.wp execOp
  simp only [ho, resolve, invoke, builtin, Sem.run_bind, Sem.run_pure, Result.andThen_ok, List.map_toArray, List.map_cons, List.map_nil, hs, hxv, hrun]
  exact h v' w' h2

theorem wpList_ap {P : Program} {w : World} {ops : Array Oper} {rest : List Oper} {o : Oper} {a : Act} {Q : Exit → Act → World → Prop} {s x : Operand} {t : TypeId}
    {e : TypeId} {z : Value} {size bytes : Nat} (hT : SlT P t e z size bytes) (hgd : o.guard = none)
    (ho : o.op = .call { callee := .builtin .append, args := #[s, x], argTypes := #[t, t] })
    {base : Nat} {v : Value} {n : Nat} {xs : List Value} (hs : a.eval s = v) (hown : w.ownsRow base e size v n xs) {xv : Value} {m : Nat} {news : List Value} (hxv : a.eval x = xv) (hx : Src w size xv m news) (h1 : ∀ u ∈ news, u.oneCell' = true)
    (h63 : n + m ≤ maxLen) (hbytes : (n + m) * bytes ≤ 140737488355328) (hbase : base ≤ w.heap.size)
    (h : ∀ v' w', Appended w base e size v (n + m) (xs ++ news) w' v' → wpList P ops Q rest (a.put o.dst v') w') : wpList P ops Q (o :: rest) a w :=
  wpList_plain hgd fun _ hK => wp_ap hT ho hs hown hxv hx h1 h63 hbytes hbase fun v' w' h2 => hK _ _ (h v' w' h2)

theorem step_ap {P : Program} {w : World} {ops : Array Oper} {o : Oper} {a : Act} {K : Act → World → Prop} {Q : Exit → Act → World → Prop} {E : Prop} {s x : Operand} {t : TypeId}
    {e : TypeId} {z : Value} {size bytes : Nat} (hT : SlT P t e z size bytes) (hgd : o.guard = none)
    (ho : o.op = .call { callee := .builtin .append, args := #[s, x], argTypes := #[t, t] })
    {base : Nat} {v : Value} {n : Nat} {xs : List Value} (hs : a.eval s = v) (hown : w.ownsRow base e size v n xs) {xv : Value} {m : Nat} {news : List Value} (hxv : a.eval x = xv) (hx : Src w size xv m news) (h1 : ∀ u ∈ news, u.oneCell' = true)
    (h63 : n + m ≤ maxLen) (hbytes : (n + m) * bytes ≤ 140737488355328) (hbase : base ≤ w.heap.size)
    (h : ∀ v' w', Appended w base e size v (n + m) (xs ++ news) w' v' → K (a.put o.dst v') w') :
    if Region.wanted o (yielded ops a.tmps) = true then Oper.wp P o a w K Q else E := by
  have hw : Region.wanted o (yielded ops a.tmps) = true := by simp [Region.wanted, hgd]
  rw [if_pos hw]
  exact wp_ap hT ho hs hown hxv hx h1 h63 hbytes hbase h

/-- A row that the call owns and that no other step writes stays owned. -/
theorem own_below {w w' : World} {base : Nat} {e : TypeId} {size : Nat} {v : Value} {n : Nat} {xs : List Value} (h : w.ownsRow base e size v n xs) (hb : Below w.heap.size w w') : w'.ownsRow base e size v n xs := by
  refine ⟨h.1, ?_⟩
  rcases h.2 with hn | ⟨g, cap, cur, rfl, hbg, hg, rest⟩
  · exact .inl hn
  · exact .inr ⟨g, cap, cur, rfl, hbg, (hb.block g (Array.getElem?_eq_some_iff.1 hg).1).trans hg, rest⟩
theorem own_mono {w : World} {base base' : Nat} {e : TypeId} {size : Nat} {v : Value} {n : Nat} {xs : List Value} (h : w.ownsRow base e size v n xs) (hb : base' ≤ base) : w.ownsRow base' e size v n xs := by
  refine ⟨h.1, ?_⟩
  rcases h.2 with hn | ⟨g, cap, cur, rfl, hbg, rest⟩
  · exact .inl hn
  · exact .inr ⟨g, cap, cur, rfl, by omega, rest⟩
theorem own_drewN {w : World} {base : Nat} {e : TypeId} {size : Nat} {v : Value} {n : Nat} {xs : List Value} (h : w.ownsRow base e size v n xs) (k : Nat) : (w.drewN k).ownsRow base e size v n xs := h
theorem own_nil (w : World) (base : Nat) (e : TypeId) (size : Nat) : w.ownsRow base e size (.slice none 0 0) 0 [] := ⟨by simp, .inl ⟨rfl, rfl⟩⟩
/-- a literal's row -/
theorem own_lit (w : World) (cs : Array Value) (e : TypeId) {size n base : Nat} (hb : base ≤ w.heap.size) (hm : n ≤ maxLen) (hs : cs.size = n * size) : (w.alloc (.cells cs e)).ownsRow base e size (.slice (some ⟨w.heap.size, 0, none⟩) n n) n cs.toList :=
  ⟨by simpa using hs, .inr ⟨_, _, cs, rfl, hb, heap_alloc_new w _, Nat.le_refl _, hm, hs, by rw [List.take_of_length_le (by simp [hs])]⟩⟩

/-- The bytes l in a row of the call's own. -/
def OwnB (w : World) (base : Nat) (v : Value) (l : List UInt8) : Prop := w.ownsRow base 5 1 v l.length (l.map bv)

theorem OwnB.sb {w : World} {base : Nat} {v : Value} {l : List UInt8} (h : OwnB w base v l) : SB w v l := by
  have h' := h
  rcases h.2 with ⟨rfl, hl⟩ | ⟨g, cap, cur, rfl, hb, hg, hn, hm, hc, ht⟩
  · have : l = [] := List.eq_nil_of_length_eq_zero hl
    subst this
    exact SB.nil w
  · refine ⟨some ⟨g, 0, none⟩, cap, rfl, fun k hk => ⟨g, 0, rfl, ?_⟩, hn, hm, fun h => by cases h⟩
    have := h'.cells (g := g) rfl k (bv l[k]) (by rw [List.getElem?_map, List.getElem?_eq_getElem hk]; rfl)
    rw [addr_add] at this
    exact this
theorem OwnB.below {w w' : World} {base : Nat} {v : Value} {l : List UInt8} (h : OwnB w base v l) (hb : Below w.heap.size w w') : OwnB w' base v l := own_below h hb
theorem OwnB.mono {w : World} {base base' : Nat} {v : Value} {l : List UInt8} (h : OwnB w base v l) (hb : base' ≤ base) : OwnB w base' v l := own_mono h hb
theorem OwnB.nil (w : World) (base : Nat) : OwnB w base (.slice none 0 0) [] := own_nil _ _ _ _
theorem OwnB.of {w : World} {base : Nat} {v : Value} {l : List UInt8} {n : Nat} {xs : List Value} (h : w.ownsRow base 5 1 v n xs) (hx : xs = l.map bv) : OwnB w base v l := by
  subst hx
  have hn : n = l.length := by have := h.1; simpa using this.symm
  subst hn
  exact h
theorem OwnB.form {w : World} {base : Nat} {v : Value} {l : List UInt8} (h : OwnB w base v l) : ∃ A c, v = .slice A l.length c ∧ RdB w A l ∧ l.length ≤ c ∧ c ≤ maxLen ∧ (A = none → c = 0) := h.sb

/-- behind an append: what was there, but the row, is there -/
theorem ap_below {B : Nat} {a w w' : World} {base : Nat} {e : TypeId} {size : Nat} {v v' : Value} {n : Nat} {xs : List Value} (h : Below B a w) (ha : Appended w base e size v n xs w' v') (hB : B ≤ w.heap.size) (hr : ∀ k, v.ownBlock = some k → B ≤ k) : Below B a w' :=
  h.grown ha.2.1 hB hr
theorem ap_cell {w w' : World} {base : Nat} {e : TypeId} {size : Nat} {v v' : Value} {n : Nat} {xs : List Value} {a : Addr} {u : Value} (h : Appended w base e size v n xs w' v') (hne : ∀ g, v.ownBlock = some g → g ≠ a.block) (hc : w.cell? a = some u) : w'.cell? a = some u :=
  h.2.1.cell hc (fun he => hne a.block he.symm rfl)
theorem own_ne {w : World} {base : Nat} {e : TypeId} {size : Nat} {v : Value} {n : Nat} {xs : List Value} (h : w.ownsRow base e size v n xs) {b : Nat} (hb : b < base) : ∀ g, v.ownBlock = some g → g ≠ b := fun g hg => by
  have := (h.lt g hg).1
  omega
theorem u8_lt (x : UInt8) : ((x.toNat : Nat) : Int) < 256 := by have := x.toNat_lt; omega
theorem own_ge {w : World} {base : Nat} {e : TypeId} {size : Nat} {v : Value} {n : Nat} {xs : List Value} (h : w.ownsRow base e size v n xs) : ∀ g, v.ownBlock = some g → base ≤ g := fun g hg => (h.lt g hg).1
theorem own_form {w : World} {base : Nat} {e : TypeId} {size : Nat} {v : Value} {n : Nat} {xs : List Value} (h : w.ownsRow base e size v n xs) (hn : 0 < n) : ∃ g cap, v = .slice (some ⟨g, 0, none⟩) n cap ∧ n ≤ cap ∧ cap ≤ maxLen ∧ base ≤ g ∧ g < w.heap.size := by
  rcases h.2 with ⟨_, h0⟩ | ⟨g, cap, cur, rfl, hb, hg, hnc, hm, _⟩
  · omega
  · exact ⟨g, cap, rfl, hnc, hm, hb, (Array.getElem?_eq_some_iff.1 hg).1⟩
theorem dq (w : World) (a b : Nat) : ∃ n, (w.drewN a).drewN b = w.drewN n := ⟨a + b, World.drewN_drewN w a b⟩
theorem ret_int {k : IntKind} {a b : Int} (h : a = b) : Ending.returned (.int k a) = .returned (.int k b) := by rw [h]
theorem ret_bool {a b : Bool} (h : a = b) : Ending.returned (.bool a) = .returned (.bool b) := by rw [h]
end Go.Proofs.Ytcbglojjbgenlaa
