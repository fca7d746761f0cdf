/- The walk of cairnlaw01.Apart: lists that share no room. -/
import Derived.Test.YtcbglojjbgenlaaLaw01
import Derived.LoopTactic
namespace Go.Proofs.Ytcbglojjbgenlaa
open Go.RowKit
attribute [local go_sem ↓] Go.wp_at_zero Go.wp_at_succ

theorem listsT : SlT Try.prog 60 29 (.slice none 0 0) 1 24 := ⟨Try.underlying60, by kernel_rfl, rfl, by decide⟩

/-- A leads to cells that hold the values vs. -/
def RdV (w : World) (A : Option Addr) (vs : List Value) : Prop :=
  ∀ k (h : k < vs.length), ∃ b off, A = some ⟨b, off, none⟩ ∧ w.cell? ⟨b, off + k, none⟩ = some vs[k]
theorem RdV.chg {S : Nat → Prop} {w w' : World} {A : Option Addr} {vs : List Value} (h : RdV w A vs) (hc : Chg S w w') (hs : ∀ a, A = some a → ¬ S a.block) : RdV w' A vs := fun k hk => by
  obtain ⟨b, off, e, hcell⟩ := h k hk
  refine ⟨b, off, e, ?_⟩
  rw [World.cell?_of_block (hc.block b (World.block_lt_of_cell? w _ hcell) (hs _ e))]
  exact hcell
theorem RdV.own {w : World} {base : Nat} {e : TypeId} {v : Value} {n : Nat} {vs : List Value} (h : w.ownsRow base e 1 v n vs) : ∃ A c, v = .slice A vs.length c ∧ RdV w A vs ∧ vs.length ≤ c ∧ c ≤ maxLen ∧ (∀ a, A = some a → v.ownBlock = some a.block) := by
  have h' := h
  have hl : vs.length = n := by simpa using h.1
  subst hl
  rcases h.2 with ⟨rfl, h0⟩ | ⟨g, cap, cur, rfl, hb, hg, hn, hm, hc, ht⟩
  · refine ⟨none, 0, by rw [h0], fun k hk => by omega, by omega, by simp [maxLen], fun a ha => by cases ha⟩
  · refine ⟨_, _, rfl, fun k hk => ⟨g, 0, rfl, ?_⟩, hn, hm, fun a ha => by cases ha; rfl⟩
    have := h'.cells (g := g) rfl k vs[k] (List.getElem?_eq_getElem hk)
    rwa [addr_add] at this

def mk (i : Nat) : UInt8 := UInt8.ofNat (i + 1)
theorem mk_bv (i : Nat) : bv (mk i) = .int .u8 (IntKind.u8.wrap ((i : Int) + 1)) := by
  simp [bv, mk, IntKind.wrap_u8]
theorem mk_val (i : Nat) : Value.int .u8 (((mk i).toNat : Nat) : Int) = .int .u8 (IntKind.u8.wrap ((i : Int) + 1)) := mk_bv i

/-- the slices vs own rows with the contents f -/
def OwnF (w : World) (base : Nat) (vs : List Value) (f : Nat → List UInt8) : Prop := ∀ i (h : i < vs.length), OwnB w base vs[i] (f i)
def Dist (vs : List Value) : Prop := ∀ i j (hi : i < vs.length) (hj : j < vs.length), i ≠ j → ∀ g, vs[i].ownBlock = some g → vs[j].ownBlock ≠ some g
def InS (vs : List Value) (k : Nat) : Prop := ∃ i, ∃ h : i < vs.length, vs[i].ownBlock = some k

theorem OwnF.congr {w : World} {base : Nat} {vs : List Value} {f f' : Nat → List UInt8} (h : OwnF w base vs f) (he : ∀ i, i < vs.length → f i = f' i) : OwnF w base vs f' := fun i hi => he i hi ▸ h i hi

theorem OwnF.store {w : World} {base : Nat} {vs : List Value} {f : Nat → List UInt8} (h : OwnF w base vs f) (hd : Dist vs) {k : Nat} (hk : k < vs.length) {g c : Nat} (hv : vs[k] = .slice (some ⟨g, 0, none⟩) (f k).length c) (j : Nat) (x : UInt8) :
    OwnF (w.setCell ⟨g, j, none⟩ (bv x)) base vs (fun i => if i = k then (f k).set j x else f i) := fun i hi => by
  by_cases e : i = k
  · subst e
    simp only [if_true]
    have := h i hk
    rw [hv] at this ⊢
    exact this.stored rfl j x
  · simp only [if_neg e]
    refine own_chg (h i hi) ((Chg.refl (· = g) w).setCell rfl _) (fun b hb hbg => ?_)
    subst hbg
    exact hd i k hi hk e b hb (by rw [hv]; rfl)

theorem set_rep {x : UInt8} (l : List UInt8) (j : Nat) (h : j < l.length) : (List.replicate j x ++ l.drop j).set j x = List.replicate (j + 1) x ++ l.drop (j + 1) := by
  have e := List.drop_eq_getElem_cons h
  rw [e, List.set_append_right _ _ (by simp), List.length_replicate, Nat.sub_self, List.set_cons_zero, List.replicate_succ', List.append_assoc]
  rfl

theorem Chg.grown {S : Nat → Prop} {w wr w' : World} {row : Option Nat} (h : Chg S w wr) (hg : wr.grownBy w' row) (hr : ∀ g, row = some g → S g ∨ w.heap.size ≤ g) : Chg S w w' :=
  ⟨hg.os.trans h.os, hg.tape.trans h.tape, hg.output.trans h.output, Nat.le_trans h.size hg.size, fun k hk hs => (hg.block k (Nat.lt_of_lt_of_le hk h.size) (fun e => by
    rcases hr k e.symm with h' | h'
    · exact hs h'
    · omega)).trans (h.block k hk hs)⟩
theorem Chg.alloc {S : Nat → Prop} {w wr : World} (h : Chg S w wr) (o : Obj) : Chg S w (wr.alloc o) :=
  h.trans (Below.chg S ((Below.refl _ _).alloc (Nat.le_refl _) o))
theorem own_grown {w w' : World} {row : Option Nat} {base : Nat} {e : TypeId} {size : Nat} {v : Value} {n : Nat} {xs : List Value} (h : w.ownsRow base e size v n xs) (hg : w.grownBy w' row) (hne : ∀ k, v.ownBlock = some k → row ≠ some k) : w'.ownsRow base e size v n xs :=
  h.kept hg (by
    cases hv : v.ownBlock with
    | none => exact .inl rfl
    | some k => exact .inr (fun e => hne k hv e.symm))
theorem own_type_ne {w : World} {b1 b2 : Nat} {e1 e2 : TypeId} {s1 s2 : Nat} {v1 v2 : Value} {n1 n2 : Nat} {x1 x2 : List Value} (h1 : w.ownsRow b1 e1 s1 v1 n1 x1) (h2 : w.ownsRow b2 e2 s2 v2 n2 x2) (hne : e1 ≠ e2) : ∀ g, v1.ownBlock = some g → v2.ownBlock ≠ some g := by
  intro g hg1 hg2
  rcases h1.2 with ⟨rfl, _⟩ | ⟨g1, c1, cur1, rfl, _, hh1, _⟩
  · simp [Value.ownBlock] at hg1
  rcases h2.2 with ⟨rfl, _⟩ | ⟨g2, c2, cur2, rfl, _, hh2, _⟩
  · simp [Value.ownBlock] at hg2
  simp [Value.ownBlock] at hg1 hg2
  subst hg1 hg2
  rw [hh1] at hh2
  injection hh2 with hh2
  injection hh2 with _ he
  exact hne he
/-- a shorter slice at the same row's head -/
theorem own_prefix {w : World} {base : Nat} {e : TypeId} {v v' : Value} {n n' : Nat} {xs xs' : List Value} (h' : w.ownsRow base e 1 v' n' xs') {base' : Nat} {w0 : World} (h : w0.ownsRow base' e 1 v n xs) (hb : v'.ownBlock = v.ownBlock) (hc : slCap v' = slCap v) (hn : n ≤ n') (hx : xs'.take n = xs) (_hbb : base' ≤ base) : w.ownsRow base' e 1 v n xs := by
  refine ⟨h.1, ?_⟩
  rcases h.2 with hnil | ⟨g, cap, cur, rfl, _, _, hnc, hcm, _, _⟩
  · exact .inl hnil
  rcases h'.2 with ⟨rfl, _⟩ | ⟨g', cap', cur', rfl, hb', hg', hnc', hcm', hcs', ht'⟩
  · simp [Value.ownBlock] at hb
  · simp [Value.ownBlock] at hb
    simp [slCap] at hc
    subst hb hc
    refine .inr ⟨g', cap', cur', rfl, by omega, hg', hnc, hcm, hcs', ?_⟩
    rw [← hx, ← ht', List.take_take]
    congr 1
    omega

def full (f : Nat → List UInt8) (i : Nat) : List UInt8 := List.replicate (f i).length (mk i)
def long (f : Nat → List UInt8) (c : Nat) (i : Nat) : List UInt8 := List.replicate ((f i).length + c) (mk i)

theorem own_one {w : World} {base : Nat} {e : TypeId} {size : Nat} {v : Value} {n : Nat} {xs : List Value} (h : w.ownsRow base e size v n xs) : v.oneCell' = true := by
  rcases h.2 with ⟨rfl, _⟩ | ⟨g, cap, cur, rfl, _⟩ <;> rfl
theorem one_single {u : Value} (h : u.oneCell' = true) : ∀ x ∈ (#[u]).toList, x.oneCell' = true := fun x hx => by
  simp at hx
  subst hx
  exact h

/-- one more byte behind a list: what holds of all the others -/
theorem apart_step {w wi W w' : World} {base k c : Nat} {vs xs : List Value} {u5 x x' : Value} {f : Nat → List UInt8} (hF : OwnF w base vs f) (hD : Dist vs) (h1 : k < vs.length) (hsz0 : w.heap.size ≤ wi.heap.size)
    (hXi : OwnF wi base xs (long f 80)) (hXB : ∀ i (h : i < xs.length) g, xs[i].ownBlock = some g → (∃ h' : i < vs.length, vs[i].ownBlock = some g) ∨ w.heap.size ≤ g) (hxl : xs.length = k)
    (hx : OwnB W base x (long f c k)) (hxb : (x.ownBlock = vs[k].ownBlock ∧ slCap x = slCap vs[k]) ∨ ∃ g, x.ownBlock = some g ∧ wi.heap.size ≤ g)
    (hown : OwnF W base vs (full f)) (hrow : W.ownsRow w.heap.size 29 1 u5 k xs) (hxs : OwnF W base xs (long f 80)) (hchg : Chg (InS vs) w W) (hsz : wi.heap.size ≤ W.heap.size)
    {n : Nat} (hap : Appended W base 5 1 x n ((long f c k).map bv ++ [bv (mk k)]) w' x') :
    OwnB w' base x' (long f (c + 1) k) ∧ ((x'.ownBlock = vs[k].ownBlock ∧ slCap x' = slCap vs[k]) ∨ ∃ g, x'.ownBlock = some g ∧ wi.heap.size ≤ g) ∧
      OwnF w' base vs (full f) ∧ w'.ownsRow w.heap.size 29 1 u5 k xs ∧ OwnF w' base xs (long f 80) ∧ Chg (InS vs) w w' ∧ wi.heap.size ≤ w'.heap.size := by
  have hx' : OwnB w' base x' (long f (c + 1) k) := OwnB.of hap.1 (by
    have e : long f (c + 1) k = long f c k ++ [mk k] := by simp only [long]; rw [← Nat.add_assoc, List.replicate_succ']
    rw [e, List.map_append]; rfl)
  have hg := hap.2.1
  have hblk : ∀ i (hi : i < vs.length) g, vs[i].ownBlock = some g → g < w.heap.size := fun i hi g hg => ((hF i hi).lt g hg).2
  refine ⟨hx', ?_, fun i hi => ?_, ?_, fun i hi => ?_, ?_, Nat.le_trans hsz hg.size⟩
  · rcases hap.2.2 with ⟨e1, e2⟩ | ⟨e1, _⟩
    · rw [e1, e2]; exact hxb
    · exact .inr ⟨_, e1, hsz⟩
  · by_cases hik : i = k
    · subst hik
      rcases hxb with ⟨e1, e2⟩ | ⟨g, e1, e2⟩
      · rcases hap.2.2 with ⟨e3, e4⟩ | ⟨e3, e4⟩
        · refine own_prefix hx' (hown i hi) (e3.trans e1) (e4.trans e2) (by simp [full, long]) ?_ (Nat.le_refl _)
          simp only [full, long, List.map_replicate, List.take_replicate]
          congr 1
          simp
        · exact own_below (hown i hi) e4
      · exact own_grown (hown i hi) hg (fun g' hg' e => by
          have := hblk i hi g' hg'
          rw [e1] at e
          injection e with e
          omega)
    · refine own_grown (hown i hi) hg (fun g' hg' e => ?_)
      rcases hxb with ⟨e1, e2⟩ | ⟨g, e1, e2⟩
      · exact hD i k hi h1 hik g' hg' (e1 ▸ e)
      · have := hblk i hi g' hg'
        rw [e1] at e
        injection e with e
        omega
  · exact own_grown hrow hg (fun g' hg' e => own_type_ne hrow hx (by decide) g' hg' e)
  · refine own_grown (hxs i hi) hg (fun g' hg' e => ?_)
    have hlt := ((hXi i hi).lt g' hg').2
    rcases hxb with ⟨e1, e2⟩ | ⟨g, e1, e2⟩
    · have ek := e1.symm.trans e
      rcases hXB i hi g' hg' with ⟨h', hv⟩ | hge
      · exact hD i k h' h1 (by omega) g' hv ek
      · have := hblk k h1 g' ek
        omega
    · rw [e1] at e
      injection e with e
      omega
  · refine hchg.grown hg (fun g hg' => ?_)
    rcases hxb with ⟨e1, e2⟩ | ⟨g', e1, e2⟩
    · exact .inl ⟨k, h1, e1 ▸ hg'⟩
    · rw [e1] at hg'
      injection hg' with e
      exact .inr (by omega)

end Go.Proofs.Ytcbglojjbgenlaa
