/- Walks of cairnlaw01: Roomy, Whole, Turn. -/
import Derived.Test.YtcbglojjbgenlaaNib
namespace Go.Proofs.Ytcbglojjbgenlaa
open Go.RowKit
attribute [local go_sem ↓] Go.wp_at_zero Go.wp_at_succ

/-- v reads as l, and behind it in its own row stands tail. -/
def Roomed (w : World) (base : Nat) (v : Value) (l tail : List UInt8) : Prop :=
  ∃ g cap, v = .slice (some ⟨g, 0, none⟩) l.length cap ∧ OwnB w base (.slice (some ⟨g, 0, none⟩) (l ++ tail).length cap) (l ++ tail)
theorem OwnB.rd {w : World} {base g n cap : Nat} {l : List UInt8} (h : OwnB w base (.slice (some ⟨g, 0, none⟩) n cap) l) : RdB w (some ⟨g, 0, none⟩) l := by
  obtain ⟨A, c, e, hr, _⟩ := h.sb
  injection e with e1 e2 e3
  subst e1
  exact hr
theorem OwnB.cap {w : World} {base g n cap : Nat} {l : List UInt8} (h : OwnB w base (.slice (some ⟨g, 0, none⟩) n cap) l) : l.length ≤ cap ∧ cap ≤ maxLen := by
  obtain ⟨A, c, e, hr, h1, h2, _⟩ := h.sb
  injection e with e1 e2 e3
  subst e3
  exact ⟨h1, h2⟩
theorem Roomed.sb {w : World} {base : Nat} {v : Value} {l tail : List UInt8} (h : Roomed w base v l tail) : SB w v l := by
  obtain ⟨g, cap, rfl, ho⟩ := h
  have hr := ho.rd
  obtain ⟨c1, c2⟩ := ho.cap
  refine ⟨some ⟨g, 0, none⟩, cap, rfl, fun k hk => ?_, by simp at c1; omega, c2, fun h => by cases h⟩
  obtain ⟨b, off, e, hc⟩ := hr k (by simp; omega)
  refine ⟨b, off, e, ?_⟩
  rw [hc, List.getElem_append_left hk]
theorem Roomed.below {w w' : World} {base : Nat} {v : Value} {l tail : List UInt8} (h : Roomed w base v l tail) (hb : Below w.heap.size w w') : Roomed w' base v l tail := by
  obtain ⟨g, cap, rfl, ho⟩ := h
  exact ⟨g, cap, rfl, ho.below hb⟩
theorem Roomed.drewN {w : World} {base : Nat} {v : Value} {l tail : List UInt8} (h : Roomed w base v l tail) (n : Nat) : Roomed (w.drewN n) base v l tail := h

set_option maxHeartbeats 400000 in
theorem roomy_any (va : Value) (l : List UInt8) (w : World) (ha : SB w va l) (hl : l.length ≤ 140737488351232) :
    Calls Try.prog 42 #[va] w fun e w' => ∃ v, e = .returned v ∧ Roomed w' w.heap.size v l [77, 78, 79] ∧ Below w.heap.size w w' := by
  have hsrc := ha.src
  obtain ⟨A, ca, rfl, ha, na, ma, -⟩ := ha
  unfold maxLen at ma
  go_enter Try.func42, Try.ntmps42
  go_wp2_with (first
    | (at_builtin; refine wpList_ap (s := .tmp 3) (x := .tmp 4) bytesT rfl rfl (by rfl) (own_lit w #[] 5 (n := 0) (Nat.le_refl _) (by simp [maxLen]) (by rfl)) (by rfl) (hsrc.below ((Below.refl _ _).alloc (Nat.le_refl _) _)) (bv_one l) (by simp only [maxLen]; omega) (by omega) (by simp) ?_; intro v1 w1 hap1)
    | (at_builtin; refine wpList_ap (s := .tmp 5) (x := .tmp 6) bytesT rfl rfl (by rfl) (own_below hap1.1 ((Below.refl _ _).alloc (Nat.le_refl _) _)) (by rfl) (Src.block (m := 3) (heap_alloc_new _ _) (by rfl)) (by simp [Value.oneCell']) (by simp only [maxLen]; omega) (by omega) (by have := hap1.2.1.size; simp at this ⊢; omega) ?_; intro v2 w2 hap2; obtain ⟨g, cap, rfl, hcap, hcapm, hgb, hgs⟩ := own_form hap2.1 (by omega); unfold maxLen at hcapm))
  go_ret
  refine ⟨_, rfl, ⟨g, cap, rfl, ?_⟩, ?_⟩
  · have h := own_mono hap2.1 (base' := w.heap.size) (Nat.le_refl _)
    have e : (l ++ [77, 78, 79]).length = 0 + l.length + 3 := by simp
    rw [e]
    exact OwnB.of h (by simp [bv])
  · have b1 : Below w.heap.size w w1 := ap_below ((Below.refl _ _).alloc (Nat.le_refl _) _) hap1 (by simp) (fun k hk => by simp [Value.ownBlock] at hk; omega)
    exact ap_below (b1.alloc b1.size _) hap2 (by have := b1.size; simp; omega) (own_ge hap1.1)

/-- w' is w but for new blocks and the blocks of S. -/
structure Chg (S : Nat → Prop) (w w' : World) : Prop where
  os : w'.os = w.os
  tape : w'.tape = w.tape
  output : w'.output = w.output
  size : w.heap.size ≤ w'.heap.size
  block : ∀ k, k < w.heap.size → ¬ S k → w'.heap[k]? = w.heap[k]?
theorem Chg.refl (S : Nat → Prop) (w : World) : Chg S w w := ⟨rfl, rfl, rfl, Nat.le_refl _, fun _ _ _ => rfl⟩
theorem Chg.trans {S : Nat → Prop} {a b c : World} (h : Chg S a b) (k : Chg S b c) : Chg S a c :=
  ⟨k.os.trans h.os, k.tape.trans h.tape, k.output.trans h.output, Nat.le_trans h.size k.size, fun i hi hs => (k.block i (Nat.lt_of_lt_of_le hi h.size) hs).trans (h.block i hi hs)⟩
theorem Chg.mono {S T : Nat → Prop} {w w' : World} (h : Chg S w w') (hs : ∀ k, k < w.heap.size → S k → T k) : Chg T w w' := ⟨h.os, h.tape, h.output, h.size, fun k hk ht => h.block k hk (fun hS => ht (hs k hk hS))⟩
theorem Below.chg {w w' : World} (S : Nat → Prop) (h : Below w.heap.size w w') : Chg S w w' := ⟨h.os, h.tape, h.output, h.size, fun k hk _ => h.block k hk⟩
theorem Chg.bel {B : Nat} {S : Nat → Prop} {w w' : World} (h : Chg S w w') (hs : ∀ k, S k → B ≤ k) (hB : B ≤ w.heap.size) : Below B w w' := ⟨h.os, h.tape, h.output, h.size, fun k hk => h.block k (by omega) (fun hS => by have := hs k hS; omega)⟩
theorem Chg.setCell {S : Nat → Prop} {a w : World} (h : Chg S a w) {p : Addr} (hp : S p.block) (u : Value) : Chg S a (w.setCell p u) :=
  h.trans ⟨rfl, rfl, rfl, by simp [World.setCell], fun k _ hs => Below.heap_setCell _ _ _ _ (fun e => hs (e ▸ hp))⟩
theorem Chg.drewN {S : Nat → Prop} {a w : World} (h : Chg S a w) (n : Nat) : Chg S a (w.drewN n) := ⟨h.os, h.tape, h.output, h.size, h.block⟩
theorem RdB.chg {S : Nat → Prop} {w w' : World} {A : Option Addr} {l : List UInt8} (h : RdB w A l) (hc : Chg S w w') (hs : ∀ a, A = some a → ¬ S a.block) : RdB w' A l := fun k hk => by
  obtain ⟨b, off, e, hcell⟩ := h k hk
  refine ⟨b, off, e, ?_⟩
  rw [World.cell?_of_block (hc.block b (World.block_lt_of_cell? w _ hcell) (hs _ e))]
  exact hcell
theorem own_chg {S : Nat → Prop} {w w' : World} {base : Nat} {e : TypeId} {size : Nat} {v : Value} {n : Nat} {xs : List Value} (h : w.ownsRow base e size v n xs) (hc : Chg S w w') (hs : ∀ k, v.ownBlock = some k → ¬ S k) : w'.ownsRow base e size v n xs := by
  refine ⟨h.1, ?_⟩
  rcases h.2 with hn | ⟨g, cap, cur, rfl, hbg, hg, rest⟩
  · exact .inl hn
  · exact .inr ⟨g, cap, cur, rfl, hbg, (hc.block g (Array.getElem?_eq_some_iff.1 hg).1 (hs g rfl)).trans hg, rest⟩

theorem bv_xor (x y : UInt8) : Value.int .u8 (bits .xor .u8 ((x.toNat : Nat) : Int) ((y.toNat : Nat) : Int)) = bv (x ^^^ y) := by
  rw [u8_xor_nat _ _ x.toNat_lt y.toNat_lt, bv, UInt8.toNat_xor]
theorem bv_or (x y : UInt8) : Value.int .u8 (bits .or .u8 ((x.toNat : Nat) : Int) ((y.toNat : Nat) : Int)) = bv (x ||| y) := by
  rw [u8_or_nat _ _ x.toNat_lt y.toNat_lt, bv, UInt8.toNat_or]
theorem bv_and (x y : UInt8) : Value.int .u8 (bits .and .u8 ((x.toNat : Nat) : Int) ((y.toNat : Nat) : Int)) = bv (x &&& y) := by
  rw [u8_and_nat _ _ x.toNat_lt y.toNat_lt, bv, UInt8.toNat_and]

/-- the address of a slice that is cut at k -/
def cutA (A : Option Addr) (c k : Nat) : Option Addr := if c = k then A else A.map (·.add k)
theorem run_slice_from {P : Program} {t e : TypeId} {z : Value} {bytes : Nat} (hT : SlT P t e z 1 bytes) (A : Option Addr) (n c lo : Nat) (h : lo ≤ n) (w : World) :
    (Instr.slice t (.slice A n c) (some (.int .i64 (lo : Int))) none none).run P w = .ok (.slice (cutA A c lo) (n - lo) (c - lo)) w := by
  obtain ⟨i, hi, hz, hs, hby⟩ := info_parts hT.info
  have he : P.elem t = e := by simp [Program.elem, hT.und]
  have ht : P.underlying t = some (.slice (P.elem t)) := by rw [he]; exact hT.und
  have := run_slice_l (P := P) (w := w) (t := t) (a := A) (len := n) (cap := c) ht .i64 (lo : Int) (by omega) (by omega)
  rw [this, he]
  simp [sizeOf, typeInfo, hi, hs, sliced, cutA]
theorem run_slice_fromto {P : Program} {t e : TypeId} {z : Value} {bytes : Nat} (hT : SlT P t e z 1 bytes) (A : Option Addr) (n c lo hi : Nat) (h : lo ≤ hi) (h' : hi ≤ c) (w : World) :
    (Instr.slice t (.slice A n c) (some (.int .i64 (lo : Int))) (some (.int .i64 (hi : Int))) none).run P w = .ok (.slice (cutA A c lo) (hi - lo) (c - lo)) w := by
  obtain ⟨i, hi', hz, hs, hby⟩ := info_parts hT.info
  have he : P.elem t = e := by simp [Program.elem, hT.und]
  have ht : P.underlying t = some (.slice (P.elem t)) := by rw [he]; exact hT.und
  have := run_slice_lh (P := P) (w := w) (t := t) (a := A) (len := n) (cap := c) ht .i64 .i64 (lo : Int) (hi : Int) (by omega) (by omega) (by omega)
  rw [this, he]
  simp [sizeOf, typeInfo, hi', hs, sliced, cutA]
theorem RdB.cut {w : World} {A : Option Addr} {l : List UInt8} (h : RdB w A l) {c k : Nat} (hc : l.length ≤ c) : RdB w (cutA A c k) (l.drop k) := fun j hj => by
  have hj' : j < l.length - k := by simpa using hj
  obtain ⟨b, off, rfl, hcell⟩ := h (k + j) (by omega)
  refine ⟨b, off + k, ?_, ?_⟩
  · unfold cutA
    rw [if_neg (by omega), Option.map_some, addr_add]
  · rw [Nat.add_assoc, hcell, List.getElem_drop]
theorem RdB.take {w : World} {A : Option Addr} {l : List UInt8} (h : RdB w A l) (n : Nat) : RdB w A (l.take n) := fun j hj => by
  obtain ⟨b, off, e, hcell⟩ := h j (by simp at hj; omega)
  refine ⟨b, off, e, ?_⟩
  rw [hcell, List.getElem_take]

/-- Turn's bytes -/
def turned (l : List UInt8) : List UInt8 := l.map (· ^^^ 1)

theorem OwnB.stored {w : World} {base g cap n : Nat} {l : List UInt8} (h : OwnB w base (.slice (some ⟨g, 0, none⟩) n cap) l) (hn : n = l.length) (j : Nat) (x : UInt8) :
    OwnB (w.setCell ⟨g, j, none⟩ (bv x)) base (.slice (some ⟨g, 0, none⟩) n cap) (l.set j x) := by
  subst hn
  have h' := (World.ownsRow.stored (h := h) (j := j) (u := bv x)).1
  refine OwnB.of h' ?_
  rw [List.map_set]
theorem OwnB.cell {w : World} {base g cap n : Nat} {l : List UInt8} (h : OwnB w base (.slice (some ⟨g, 0, none⟩) n cap) l) (j : Nat) (hj : j < l.length) : w.cell? ⟨g, j, none⟩ = some (.int .u8 ((l[j].toNat : Nat) : Int)) := by
  obtain ⟨b, off, e, hc⟩ := h.rd j hj
  injection e with e
  injection e with e1 e2
  subst e1 e2
  simpa using hc
theorem OwnB.unfrozen {w : World} {base g cap n : Nat} {l : List UInt8} (h : OwnB w base (.slice (some ⟨g, 0, none⟩) n cap) l) (j : Nat) : w.frozen? ⟨g, j, none⟩ = false := by
  rcases h.2 with ⟨e, _⟩ | ⟨g', cap', cur, e, _, hg, _⟩
  · cases e
  · injection e with e
    injection e with e
    injection e with e
    subst e
    exact frozen_of_row _ _ _ _ _ hg

theorem OwnB.at {w : World} {base g cap n : Nat} {p q : List UInt8} {x : UInt8} (h : OwnB w base (.slice (some ⟨g, 0, none⟩) n cap) (p ++ x :: q)) : w.cell? ⟨g, p.length, none⟩ = some (.int .u8 ((x.toNat : Nat) : Int)) := by
  have := h.cell p.length (by simp)
  simpa using this
theorem OwnB.put {w : World} {base g cap n : Nat} {p q : List UInt8} {x : UInt8} (h : OwnB w base (.slice (some ⟨g, 0, none⟩) n cap) (p ++ x :: q)) (hn : n = (p ++ x :: q).length) (y : UInt8) :
    OwnB (w.setCell ⟨g, p.length, none⟩ (bv y)) base (.slice (some ⟨g, 0, none⟩) n cap) (p ++ y :: q) := by
  have := h.stored hn p.length y
  simpa using this
theorem turned_snoc (l : List UInt8) (x : UInt8) : turned (l ++ [x]) = turned l ++ [x ^^^ 1] := by simp [turned]
theorem turned_length (l : List UInt8) : (turned l).length = l.length := by simp [turned]

end Go.Proofs.Ytcbglojjbgenlaa
