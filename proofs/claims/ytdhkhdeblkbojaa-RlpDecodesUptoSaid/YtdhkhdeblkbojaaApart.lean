/- The walk of cairnlaw01.Apart: lists that share no room. -/
import Derived.Test.YtdhkhdeblkbojaaLaw01
import Derived.LoopTactic
namespace Go.Proofs.Ytdhkhdeblkbojaa
open Go.RowKit
attribute [local go_sem ↓] Go.wp_at_zero Go.wp_at_succ

theorem listsT : SlT Try.prog 32 22 (.slice none 0 0) 1 24 := ⟨Try.underlying32, by kernel_rfl, rfl, by decide⟩

/-- A leads to cells that hold the values vs. -/
def RdV (w : World) (A : Option Addr) (vs : List Value) : Prop :=
  ∀ k (h : k < vs.length), ∃ b off, A = some ⟨b, off, none⟩ ∧ w.cell? ⟨b, off + k, none⟩ = some vs[k]
theorem RdV.chg {S : Nat → Prop} {w w' : World} {A : Option Addr} {vs : List Value} (h : RdV w A vs) (hc : Chg S w w') (hs : ∀ a, A = some a → ¬ S a.block) : RdV w' A vs := fun k hk => by
  obtain ⟨b, off, e, hcell⟩ := h k hk
  refine ⟨b, off, e, ?_⟩
  rw [World.cell?_of_block (hc.block b (World.block_lt_of_cell? w _ hcell) (hs _ e))]
  exact hcell
theorem RdV.own {w : World} {base : Nat} {e : TypeId} {v : Value} {n : Nat} {vs : List Value} (h : w.ownsRow base e 1 v n vs) : ∃ A c, v = .slice A vs.length c ∧ RdV w A vs ∧ vs.length ≤ c ∧ c ≤ maxLen ∧ (∀ a, A = some a → v.ownBlock = some a.block) := by
  have h' := h
  have hl : vs.length = n := by simpa using h.1
  subst hl
  rcases h.2 with ⟨rfl, h0⟩ | ⟨g, cap, cur, rfl, hb, hg, hn, hm, hc, ht⟩
  · refine ⟨none, 0, by rw [h0], fun k hk => by omega, by omega, by simp [maxLen], fun a ha => by cases ha⟩
  · refine ⟨_, _, rfl, fun k hk => ⟨g, 0, rfl, ?_⟩, hn, hm, fun a ha => by cases ha; rfl⟩
    have := h'.cells (g := g) rfl k vs[k] (List.getElem?_eq_getElem hk)
    rwa [addr_add] at this

def mk (i : Nat) : UInt8 := UInt8.ofNat (i + 1)
theorem mk_bv (i : Nat) : bv (mk i) = .int .u8 (IntKind.u8.wrap ((i : Int) + 1)) := by
  simp [bv, mk, IntKind.wrap_u8]
theorem mk_val (i : Nat) : Value.int .u8 (((mk i).toNat : Nat) : Int) = .int .u8 (IntKind.u8.wrap ((i : Int) + 1)) := mk_bv i

/-- the slices vs own rows with the contents f -/
def OwnF (w : World) (base : Nat) (vs : List Value) (f : Nat → List UInt8) : Prop := ∀ i (h : i < vs.length), OwnB w base vs[i] (f i)
def Dist (vs : List Value) : Prop := ∀ i j (hi : i < vs.length) (hj : j < vs.length), i ≠ j → ∀ g, vs[i].ownBlock = some g → vs[j].ownBlock ≠ some g
def InS (vs : List Value) (k : Nat) : Prop := ∃ i, ∃ h : i < vs.length, vs[i].ownBlock = some k

theorem OwnF.congr {w : World} {base : Nat} {vs : List Value} {f f' : Nat → List UInt8} (h : OwnF w base vs f) (he : ∀ i, i < vs.length → f i = f' i) : OwnF w base vs f' := fun i hi => he i hi ▸ h i hi

theorem OwnF.store {w : World} {base : Nat} {vs : List Value} {f : Nat → List UInt8} (h : OwnF w base vs f) (hd : Dist vs) {k : Nat} (hk : k < vs.length) {g c : Nat} (hv : vs[k] = .slice (some ⟨g, 0, none⟩) (f k).length c) (j : Nat) (x : UInt8) :
    OwnF (w.setCell ⟨g, j, none⟩ (bv x)) base vs (fun i => if i = k then (f k).set j x else f i) := fun i hi => by
  by_cases e : i = k
  · subst e
    simp only [if_true]
    have := h i hk
    rw [hv] at this ⊢
    exact this.stored rfl j x
  · simp only [if_neg e]
    refine own_chg (h i hi) ((Chg.refl (· = g) w).setCell rfl _) (fun b hb hbg => ?_)
    subst hbg
    exact hd i k hi hk e b hb (by rw [hv]; rfl)

theorem set_rep {x : UInt8} (l : List UInt8) (j : Nat) (h : j < l.length) : (List.replicate j x ++ l.drop j).set j x = List.replicate (j + 1) x ++ l.drop (j + 1) := by
  have e := List.drop_eq_getElem_cons h
  rw [e, List.set_append_right _ _ (by simp), List.length_replicate, Nat.sub_self, List.set_cons_zero, List.replicate_succ', List.append_assoc]
  rfl

theorem Chg.grown {S : Nat → Prop} {w wr w' : World} {row : Option Nat} (h : Chg S w wr) (hg : wr.grownBy w' row) (hr : ∀ g, row = some g → S g ∨ w.heap.size ≤ g) : Chg S w w' :=
  ⟨hg.os.trans h.os, hg.tape.trans h.tape, hg.output.trans h.output, Nat.le_trans h.size hg.size, fun k hk hs => (hg.block k (Nat.lt_of_lt_of_le hk h.size) (fun e => by
    rcases hr k e.symm with h' | h'
    · exact hs h'
    · omega)).trans (h.block k hk hs)⟩
theorem Chg.alloc {S : Nat → Prop} {w wr : World} (h : Chg S w wr) (o : Obj) : Chg S w (wr.alloc o) :=
  h.trans (Below.chg S ((Below.refl _ _).alloc (Nat.le_refl _) o))
theorem own_grown {w w' : World} {row : Option Nat} {base : Nat} {e : TypeId} {size : Nat} {v : Value} {n : Nat} {xs : List Value} (h : w.ownsRow base e size v n xs) (hg : w.grownBy w' row) (hne : ∀ k, v.ownBlock = some k → row ≠ some k) : w'.ownsRow base e size v n xs :=
  h.kept hg (by
    cases hv : v.ownBlock with
    | none => exact .inl rfl
    | some k => exact .inr (fun e => hne k hv e.symm))
theorem own_type_ne {w : World} {b1 b2 : Nat} {e1 e2 : TypeId} {s1 s2 : Nat} {v1 v2 : Value} {n1 n2 : Nat} {x1 x2 : List Value} (h1 : w.ownsRow b1 e1 s1 v1 n1 x1) (h2 : w.ownsRow b2 e2 s2 v2 n2 x2) (hne : e1 ≠ e2) : ∀ g, v1.ownBlock = some g → v2.ownBlock ≠ some g := by
  intro g hg1 hg2
  rcases h1.2 with ⟨rfl, _⟩ | ⟨g1, c1, cur1, rfl, _, hh1, _⟩
  · simp [Value.ownBlock] at hg1
  rcases h2.2 with ⟨rfl, _⟩ | ⟨g2, c2, cur2, rfl, _, hh2, _⟩
  · simp [Value.ownBlock] at hg2
  simp [Value.ownBlock] at hg1 hg2
  subst hg1 hg2
  rw [hh1] at hh2
  injection hh2 with hh2
  injection hh2 with _ he
  exact hne he
/-- a shorter slice at the same row's head -/
theorem own_prefix {w : World} {base : Nat} {e : TypeId} {v v' : Value} {n n' : Nat} {xs xs' : List Value} (h' : w.ownsRow base e 1 v' n' xs') {base' : Nat} {w0 : World} (h : w0.ownsRow base' e 1 v n xs) (hb : v'.ownBlock = v.ownBlock) (hc : slCap v' = slCap v) (hn : n ≤ n') (hx : xs'.take n = xs) (_hbb : base' ≤ base) : w.ownsRow base' e 1 v n xs := by
  refine ⟨h.1, ?_⟩
  rcases h.2 with hnil | ⟨g, cap, cur, rfl, _, _, hnc, hcm, _, _⟩
  · exact .inl hnil
  rcases h'.2 with ⟨rfl, _⟩ | ⟨g', cap', cur', rfl, hb', hg', hnc', hcm', hcs', ht'⟩
  · simp [Value.ownBlock] at hb
  · simp [Value.ownBlock] at hb
    simp [slCap] at hc
    subst hb hc
    refine .inr ⟨g', cap', cur', rfl, by omega, hg', hnc, hcm, hcs', ?_⟩
    rw [← hx, ← ht', List.take_take]
    congr 1
    omega

def full (f : Nat → List UInt8) (i : Nat) : List UInt8 := List.replicate (f i).length (mk i)
def long (f : Nat → List UInt8) (c : Nat) (i : Nat) : List UInt8 := List.replicate ((f i).length + c) (mk i)

theorem own_one {w : World} {base : Nat} {e : TypeId} {size : Nat} {v : Value} {n : Nat} {xs : List Value} (h : w.ownsRow base e size v n xs) : v.oneCell' = true := by
  rcases h.2 with ⟨rfl, _⟩ | ⟨g, cap, cur, rfl, _⟩ <;> rfl
theorem one_single {u : Value} (h : u.oneCell' = true) : ∀ x ∈ (#[u]).toList, x.oneCell' = true := fun x hx => by
  simp at hx
  subst hx
  exact h

/-- one more byte behind a list: what holds of all the others -/
theorem apart_step {w wi W w' : World} {base k c : Nat} {vs xs : List Value} {u5 x x' : Value} {f : Nat → List UInt8} (hF : OwnF w base vs f) (hD : Dist vs) (h1 : k < vs.length) (hsz0 : w.heap.size ≤ wi.heap.size)
    (hXi : OwnF wi base xs (long f 80)) (hXB : ∀ i (h : i < xs.length) g, xs[i].ownBlock = some g → (∃ h' : i < vs.length, vs[i].ownBlock = some g) ∨ w.heap.size ≤ g) (hxl : xs.length = k)
    (hx : OwnB W base x (long f c k)) (hxb : (x.ownBlock = vs[k].ownBlock ∧ slCap x = slCap vs[k]) ∨ ∃ g, x.ownBlock = some g ∧ wi.heap.size ≤ g)
    (hown : OwnF W base vs (full f)) (hrow : W.ownsRow w.heap.size 22 1 u5 k xs) (hxs : OwnF W base xs (long f 80)) (hchg : Chg (InS vs) w W) (hsz : wi.heap.size ≤ W.heap.size)
    {n : Nat} (hap : Appended W base 5 1 x n ((long f c k).map bv ++ [bv (mk k)]) w' x') :
    OwnB w' base x' (long f (c + 1) k) ∧ ((x'.ownBlock = vs[k].ownBlock ∧ slCap x' = slCap vs[k]) ∨ ∃ g, x'.ownBlock = some g ∧ wi.heap.size ≤ g) ∧
      OwnF w' base vs (full f) ∧ w'.ownsRow w.heap.size 22 1 u5 k xs ∧ OwnF w' base xs (long f 80) ∧ Chg (InS vs) w w' ∧ wi.heap.size ≤ w'.heap.size := by
  have hx' : OwnB w' base x' (long f (c + 1) k) := OwnB.of hap.1 (by
    have e : long f (c + 1) k = long f c k ++ [mk k] := by simp only [long]; rw [← Nat.add_assoc, List.replicate_succ']
    rw [e, List.map_append]; rfl)
  have hg := hap.2.1
  have hblk : ∀ i (hi : i < vs.length) g, vs[i].ownBlock = some g → g < w.heap.size := fun i hi g hg => ((hF i hi).lt g hg).2
  refine ⟨hx', ?_, fun i hi => ?_, ?_, fun i hi => ?_, ?_, Nat.le_trans hsz hg.size⟩
  · rcases hap.2.2 with ⟨e1, e2⟩ | ⟨e1, _⟩
    · rw [e1, e2]; exact hxb
    · exact .inr ⟨_, e1, hsz⟩
  · by_cases hik : i = k
    · subst hik
      rcases hxb with ⟨e1, e2⟩ | ⟨g, e1, e2⟩
      · rcases hap.2.2 with ⟨e3, e4⟩ | ⟨e3, e4⟩
        · refine own_prefix hx' (hown i hi) (e3.trans e1) (e4.trans e2) (by simp [full, long]) ?_ (Nat.le_refl _)
          simp only [full, long, List.map_replicate, List.take_replicate]
          congr 1
          simp
        · exact own_below (hown i hi) e4
      · exact own_grown (hown i hi) hg (fun g' hg' e => by
          have := hblk i hi g' hg'
          rw [e1] at e
          injection e with e
          omega)
    · refine own_grown (hown i hi) hg (fun g' hg' e => ?_)
      rcases hxb with ⟨e1, e2⟩ | ⟨g, e1, e2⟩
      · exact hD i k hi h1 hik g' hg' (e1 ▸ e)
      · have := hblk i hi g' hg'
        rw [e1] at e
        injection e with e
        omega
  · exact own_grown hrow hg (fun g' hg' e => own_type_ne hrow hx (by decide) g' hg' e)
  · refine own_grown (hxs i hi) hg (fun g' hg' e => ?_)
    have hlt := ((hXi i hi).lt g' hg').2
    rcases hxb with ⟨e1, e2⟩ | ⟨g, e1, e2⟩
    · have ek := e1.symm.trans e
      rcases hXB i hi g' hg' with ⟨h', hv⟩ | hge
      · exact hD i k h' h1 (by omega) g' hv ek
      · have := hblk k h1 g' ek
        omega
    · rw [e1] at e
      injection e with e
      omega
  · refine hchg.grown hg (fun g hg' => ?_)
    rcases hxb with ⟨e1, e2⟩ | ⟨g', e1, e2⟩
    · exact .inl ⟨k, h1, e1 ▸ hg'⟩
    · rw [e1] at hg'
      injection hg' with e
      exact .inr (by omega)

set_option maxRecDepth 100000 in
set_option maxHeartbeats 2000000 in
theorem apart_any (A : Option Addr) (cA : Nat) (vs : List Value) (f : Nat → List UInt8) (base : Nat) (w : World) (hA : RdV w A vs) (hAS : ∀ a, A = some a → ¬ InS vs a.block)
    (hF : OwnF w base vs f) (hD : Dist vs) (hbase : base ≤ w.heap.size) (hm : vs.length ≤ 1099511627776) (hf : ∀ i, i < vs.length → (f i).length ≤ 1099511627776) :
    Calls Try.prog 20 #[.slice A vs.length cA] w fun e w' => e = .returned (.bool true) ∧ Chg (InS vs) w w' := by
  go_enter Try.func20, Try.ntmps20
  go_wp2
  go_loopw [3] (fun i wr => ∃ k : Nat, k ≤ vs.length ∧ i = .int .i64 k ∧ OwnF wr base vs (fun i => if i < k then full f i else f i) ∧ Chg (InS vs) w wr) (fun i _ => vs.length - (intOf i).toNat)
  case atStart => exact ⟨0, by omega, rfl, hF.congr (fun i _ => by simp), Chg.refl _ _⟩
  case round =>
    obtain ⟨k, hk, rfl, hown, hchg⟩ := hrel
    by_cases h1 : k < vs.length
    · have hb1 : (k : Int) < (vs.length : Int) := by omega
      have HW := Lib.hid hown
      have hRd := (hA.chg hchg hAS) k h1
      clear hown
      go_wp2_with fail
      obtain ⟨wo, rfl⟩ : ∃ wo : World, wo = wr := ⟨_, rfl⟩
      go_loopw [4] (fun j wr => ∃ c : Nat, c ≤ (f k).length ∧ j = .int .i64 c ∧ OwnF wr base vs (fun i => if i < k then full f i else if i = k then List.replicate c (mk k) ++ (f k).drop c else f i) ∧ Chg (InS vs) w wr) (fun j _ => (f k).length - (intOf j).toNat)
      case atStart => exact ⟨0, by omega, rfl, HW.out.congr (fun i _ => by by_cases e : i < k <;> by_cases e' : i = k <;> simp [e, e']), hchg⟩
      case round =>
        obtain ⟨c, hc, rfl, hown, hchg'⟩ := hrel
        have HW' := Lib.hid hown
        have hRd' := (hA.chg hchg' hAS) k h1
        obtain ⟨b, off, rfl, hcell⟩ := hRd'
        have hok := hown k h1
        simp only [Nat.lt_irrefl, if_false, if_true] at hok
        have hlk : (List.replicate c (mk k) ++ (f k).drop c).length = (f k).length := by simp; omega
        obtain ⟨Ak, ck, hvk, hrk, hck, hmk, -⟩ := hok.form
        rw [hlk] at hvk hck
        rw [hvk] at hcell
        unfold maxLen at hmk
        have hlim := hf k h1
        by_cases h2 : c < (f k).length
        · obtain ⟨g, o, rfl, hcc0⟩ := hrk c (by rw [hlk]; exact h2)
          have ho : o = 0 := by
            rcases hok.2 with ⟨e, _⟩ | ⟨g', cap', cur', e, _⟩
            · rw [hvk] at e; cases e
            · rw [hvk] at e; injection e with e; injection e with e; injection e
          subst ho
          simp only [Nat.zero_add] at hcc0
          obtain ⟨old, hcc⟩ : ∃ u, wr.cell? ⟨g, c, none⟩ = some u := ⟨_, hcc0⟩
          have hfz : wr.frozen? ⟨g, c, none⟩ = false := by rw [hvk] at hok; exact hok.unfrozen c
          have hst := OwnF.store hown hD h1 (g := g) (c := ck) (by simp only [Nat.lt_irrefl, if_false, if_true]; rw [hlk]; exact hvk) c (mk k)
          rw [mk_bv] at hst
          have HST := Lib.hid hst
          have hS : InS vs g := ⟨k, h1, by rw [hvk]; rfl⟩
          have HL := Lib.hid hlk
          clear hcc0 hrk hst hown hok hlk
          have hb2 : (c : Int) < ((f k).length : Int) := by omega
          have hb0 : (0 : Int) ≤ (c : Int) := by omega
          have hb0' : (0 : Int) ≤ (k : Int) := by omega
          clear hvk
          go_wp2
          refine ⟨⟨c + 1, by omega, by go_num, HST.out.congr (fun i hi => ?_), hchg'.setCell hS _⟩, by simp [intOf]; omega⟩
          by_cases e : i = k
          · subst e
            simp only [Nat.lt_irrefl, if_false, if_true]
            exact set_rep (f i) c h2
          · simp [e]
        · have hck' : c = (f k).length := by omega
          have HL := Lib.hid hlk
          have HV := Lib.hid hvk
          clear hvk hok hown hlk
          have hb0' : (0 : Int) ≤ (k : Int) := by omega
          go_wp2
          refine ⟨⟨k + 1, by omega, by go_num, HW'.out.congr (fun i hi => ?_), hchg'⟩, by simp [intOf]; omega⟩
          by_cases e : i = k
          · subst e
            simp [full, hck']
          · by_cases e' : i < k
            · simp [e', show i < k + 1 by omega]
            · simp [e, e', show ¬ i < k + 1 by omega]
    · have hkm : k = vs.length := by omega
      subst hkm
      have HW := Lib.hid (hown.congr (f' := full f) (fun i hi => by simp [hi]))
      clear hown
      obtain ⟨w1, rfl⟩ : ∃ w1 : World, w1 = wr := ⟨_, rfl⟩
      go_wp2_with fail
      go_loopw [5, 6] (fun v i wr => ∃ (k : Nat) (xs : List Value), k ≤ vs.length ∧ i = .int .i64 k ∧ xs.length = k ∧ OwnF wr base vs (full f) ∧ Chg (InS vs) w wr ∧
          wr.ownsRow w.heap.size 22 1 v k xs ∧ OwnF wr base xs (long f 80) ∧ (∀ i (h : i < xs.length) g, xs[i].ownBlock = some g → (∃ h' : i < vs.length, vs[i].ownBlock = some g) ∨ w.heap.size ≤ g)) (fun _ i _ => vs.length - (intOf i).toNat)
      case atStart => exact ⟨0, [], by omega, rfl, rfl, HW.out, hchg, own_nil _ _ _ _, fun i h => by simp at h, fun i h => by simp at h⟩
      case round =>
        obtain ⟨k, xs, hk, rfl, hxl, hown, hchg, hrow, hxs, hxb⟩ := hrel
        by_cases h1 : k < vs.length
        · have hb1 : (k : Int) < (vs.length : Int) := by omega
          have hb0 : (0 : Int) ≤ (k : Int) := by omega
          obtain ⟨b, off, rfl, hcell⟩ := (hA.chg hchg hAS) k h1
          have HO := Lib.hid hown
          have HR := Lib.hid hrow
          have HX := Lib.hid hxs
          have HXB := Lib.hid hxb
          have HXL := Lib.hid hxl
          clear hown hrow hxs hxb hxl
          go_wp2_with fail
          obtain ⟨wi, rfl⟩ : ∃ wi : World, wi = wr := ⟨_, rfl⟩
          go_loopw [7, 8] (fun x c wr => ∃ c' : Nat, c' ≤ 80 ∧ c = .int .i64 c' ∧ OwnB wr base x (long f c' k) ∧ ((x.ownBlock = vs[k].ownBlock ∧ slCap x = slCap vs[k]) ∨ ∃ g, x.ownBlock = some g ∧ wi.heap.size ≤ g) ∧
              OwnF wr base vs (full f) ∧ wr.ownsRow w.heap.size 22 1 u5 k xs ∧ OwnF wr base xs (long f 80) ∧ Chg (InS vs) w wr ∧ wi.heap.size ≤ wr.heap.size) (fun _ c _ => 80 - (intOf c).toNat)
          case atStart => exact ⟨0, by omega, rfl, HO.out k h1, .inl ⟨rfl, rfl⟩, HO.out, HR.out, HX.out, hchg, Nat.le_refl _⟩
          case round =>
            obtain ⟨c, hc, rfl, hx, hxb, hown, hrow, hxs, hchg', hsz⟩ := hrel
            have hlim := hf k h1
            have HX2 := Lib.hid hx
            have HXB2 := Lib.hid hxb
            have HO2 := Lib.hid hown
            have HR2 := Lib.hid hrow
            have HXS2 := Lib.hid hxs
            have hll : (long f c k).length ≤ 1099511627776 + 80 := by simp [long]; omega
            have hbs : base ≤ wr.heap.size := by have := hchg'.size; omega
            clear hx hxb hown hrow hxs
            by_cases h2 : c < 80
            · have hb2 : (c : Int) < 80 := by omega
              go_wp2_with (at_builtin; refine wpList_ap (s := .tmp 49) (x := .tmp 53) bytesT rfl rfl (by rfl) (own_below HX2.out ((Below.refl _ _).alloc (Nat.le_refl _) _)) (by rfl) (Src.block (m := 1) (heap_alloc_new _ _) (by rfl)) (by simp [Value.oneCell']) (by simp only [maxLen]; omega) (by omega) (by simp; omega) ?_; intro v1 w2 hap)
              have hal : Below wr.heap.size wr (wr.alloc (.cells #[Value.int .u8 (IntKind.u8.wrap ((k : Int) + 1))] 5)) := (Below.refl _ _).alloc (Nat.le_refl _) _
              obtain ⟨r1, r2, r3, r4, r5, r6, r7⟩ := apart_step hF hD h1 hchg.size HX.out HXB.out HXL.out (own_below HX2.out hal) HXB2.out (fun i hi => own_below (HO2.out i hi) hal) (own_below HR2.out hal) (fun i hi => own_below (HXS2.out i hi) hal) (hchg'.alloc _) (by simp; omega) (by rw [mk_bv]; exact hap)
              refine ⟨⟨c + 1, by omega, by go_num, r1, r2, r3, r4, r5, r6, r7⟩, by simp [intOf]; omega⟩
            · have hc8 : c = 80 := by omega
              subst hc8
              obtain ⟨A7, c7, rfl, -⟩ := HX2.out.form
              have HU1 := Lib.hid (one_single (own_one HX2.out))
              go_wp2_with (at_builtin; refine wpList_ap (s := .tmp 55) (x := .tmp 57) listsT rfl rfl (by rfl) (own_below HR2.out ((Below.refl _ _).alloc (Nat.le_refl _) _)) (by rfl) (Src.block (m := 1) (heap_alloc_new _ _) (by rfl)) HU1.out (by simp only [maxLen]; omega) (by omega) (by have := hchg'.size; simp; omega) ?_; intro v1 w2 hap)
              have hal : Below wr.heap.size wr (wr.alloc (.cells #[.slice A7 (long f 80 k).length c7] 22)) := (Below.refl _ _).alloc (Nat.le_refl _) _
              have hrow := own_below HR2.out hal
              have hg := hap.2.1
              have hge := own_ge hrow
              have hbv : ∀ i (hi : i < vs.length) g, vs[i].ownBlock = some g → g < w.heap.size := fun i hi g hg => ((hF i hi).lt g hg).2
              refine ⟨⟨k + 1, xs ++ [.slice A7 (long f 80 k).length c7], by omega, by go_num, by simp [HXL.out], fun i hi => ?_, (hchg'.alloc _).grown hg (fun g h => .inr (hge g h)), hap.1, fun i hi => ?_, fun i hi g hgi => ?_⟩, by simp [intOf]; omega⟩
              · exact own_grown (own_below (HO2.out i hi) hal) hg (fun g' hg' e => by
                  have := hbv i hi g' hg'
                  have := hge g' e
                  omega)
              · by_cases hik : i < xs.length
                · rw [List.getElem_append_left hik]
                  exact own_grown (own_below (HXS2.out i hik) hal) hg (fun g' hg' e => own_type_ne hrow (own_below (HXS2.out i hik) hal) (by decide) g' e hg')
                · have hik' : i = xs.length := by simp at hi; omega
                  subst hik'
                  simp only [List.getElem_append_right (Nat.le_refl _), Nat.sub_self, List.getElem_cons_zero]
                  rw [HXL.out]
                  exact own_grown (own_below HX2.out hal) hg (fun g' hg' e => own_type_ne hrow (own_below HX2.out hal) (by decide) g' e hg')
              · by_cases hik : i < xs.length
                · rw [List.getElem_append_left hik] at hgi
                  exact HXB.out i hik g hgi
                · have hik' : i = xs.length := by simp at hi; omega
                  subst hik'
                  simp only [List.getElem_append_right (Nat.le_refl _), Nat.sub_self, List.getElem_cons_zero] at hgi
                  rcases HXB2.out with ⟨e1, _⟩ | ⟨g', e1, e2⟩
                  · refine .inl ⟨by have := HXL.out; omega, ?_⟩
                    simp only [HXL.out]
                    rw [← e1]; exact hgi
                  · rw [e1] at hgi
                    injection hgi with hgi
                    have := hchg.size
                    exact .inr (by omega)
        · have hkm : k = vs.length := by omega
          subst hkm
          have HO := Lib.hid hown
          have HX := Lib.hid hxs
          have hRV := hA.chg hchg hAS
          obtain ⟨A5, c5, rfl, hR5, hc5, hm5, -⟩ := RdV.own hrow
          have HXL := Lib.hid hxl
          rw [hxl] at hc5
          unfold maxLen at hm5
          rw [HXL.out]
          clear hown hxs hrow hxl hxb HW
          go_wp2_with fail
          go_loop [9] (fun i => ∃ k : Nat, k ≤ vs.length ∧ i = .int .i64 k) (fun i => vs.length - (intOf i).toNat)
          case atStart => exact ⟨0, by omega, rfl⟩
          case round =>
            obtain ⟨k, hk, rfl⟩ := hrel
            by_cases h1 : k < vs.length
            · have hb1 : (k : Int) < (vs.length : Int) := by omega
              have hb0 : (0 : Int) ≤ (k : Int) := by omega
              have hkx : k < xs.length := by rw [HXL.out]; exact h1
              obtain ⟨b5, o5, rfl, hcx⟩ := hR5 k hkx
              obtain ⟨b, off, rfl, hcl⟩ := hRV k h1
              obtain ⟨Ax, cx, hvx, hrx, hlx, hmx, -⟩ := (HX.out k hkx).form
              obtain ⟨Al, cl, hvl, hrl, hll, hml, -⟩ := (HO.out k h1).form
              rw [hvx] at hcx
              rw [hvl] at hcl
              have e1 : (long f 80 k).length = (f k).length + 80 := by simp [long]
              have e2 : (full f k).length = (f k).length := by simp [full]
              rw [e1] at hcx hlx
              rw [e2] at hcl hll
              unfold maxLen at hmx hml
              have hlim := hf k h1
              have hrx' : ∀ c, c < (f k).length + 80 → ∃ b off, Ax = some ⟨b, off, none⟩ ∧ wr.cell? ⟨b, off + c, none⟩ = some (.int .u8 (IntKind.u8.wrap ((k : Int) + 1))) := fun c hc => by
                obtain ⟨b, off, e, h⟩ := hrx c (by rw [e1]; exact hc)
                refine ⟨b, off, e, ?_⟩
                rw [h]
                simp only [long, List.getElem_replicate]
                rw [mk_val]
              have hrl' : ∀ c, c < (f k).length → ∃ b off, Al = some ⟨b, off, none⟩ ∧ wr.cell? ⟨b, off + c, none⟩ = some (.int .u8 (IntKind.u8.wrap ((k : Int) + 1))) := fun c hc => by
                obtain ⟨b, off, e, h⟩ := hrl c (by rw [e2]; exact hc)
                refine ⟨b, off, e, ?_⟩
                rw [h]
                simp only [full, List.getElem_replicate]
                rw [mk_val]
              have HRX := Lib.hid hrx'
              have HRL := Lib.hid hrl'
              clear hvx hvl e1 e2 hrx hrl hrx' hrl'
              go_wp2_with fail
              go_loop [10] (fun j => ∃ c : Nat, c ≤ (f k).length + 80 ∧ j = .int .i64 c) (fun j => (f k).length + 80 - (intOf j).toNat)
              case atStart => exact ⟨0, by omega, rfl⟩
              case round =>
                obtain ⟨c, hc, rfl⟩ := hrel
                by_cases h2 : c < (f k).length + 80
                · have hb2 : (c : Int) < ((f k).length : Int) + 80 := by omega
                  have hb20 : (0 : Int) ≤ (c : Int) := by omega
                  obtain ⟨bx, ox, rfl, hcc⟩ := HRX.out c h2
                  by_cases h3 : c < (f k).length
                  · have hb3 : (c : Int) < ((f k).length : Int) := by omega
                    obtain ⟨bl, ol, rfl, hcd⟩ := HRL.out c h3
                    go_wp2
                    go_round
                    case rel => exact ⟨c + 1, by omega, by go_num⟩
                    case measure => simp [intOf]; omega
                  · have hb3 : ¬ (c : Int) < ((f k).length : Int) := by omega
                    go_wp2
                    go_round
                    case rel => exact ⟨c + 1, by omega, by go_num⟩
                    case measure => simp [intOf]; omega
                · have hb2 : ¬ (c : Int) < ((f k).length : Int) + 80 := by omega
                  go_wp2
                  go_round
                  case rel => exact ⟨k + 1, by omega, by go_num⟩
                  case measure => simp [intOf]; omega
            · have hb1 : ¬ (k : Int) < (vs.length : Int) := by omega
              go_wp2
              go_ret
              exact ⟨rfl, hchg⟩
end Go.Proofs.Ytdhkhdeblkbojaa
