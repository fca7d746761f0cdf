/- Walks of cairnref01: Common, Compare, Same, Nibbles, Bytes. Walks of cairnref01: Nibbles, Bytes. Walks of cairnlaw01: Roomy, Whole, Turn. The walk of cairnlaw01.Apart: lists that share no room. -/
import Derived.Test.YtcbglojjbgenlaaLib
import Derived.Test.YtcbglojjbgenlaaRows
import Derived.LoopTactic
namespace Go.Proofs.Ytcbglojjbgenlaa
open Go.RowKit

def common : List UInt8 → List UInt8 → Nat
  | a :: r, b :: s => if a = b then common r s + 1 else 0
  | _, _ => 0

theorem common_at (la lb : List UInt8) (k : Nat) (h : la.take k = lb.take k) (hk : k ≤ la.length) (hk' : k ≤ lb.length) (he : ∀ h1 : k < la.length, ∀ h2 : k < lb.length, la[k] ≠ lb[k]) : common la lb = k := by
  induction la generalizing lb k with
  | nil => simp at hk; subst hk; simp [common]
  | cons a r ih =>
    cases lb with
    | nil => simp at hk'; subst hk'; simp [common]
    | cons b s =>
      cases k with
      | zero => have := he (by simp) (by simp); simp at this; simp [common, this]
      | succ k =>
        simp at h
        simp only [common, h.1, if_true]
        rw [ih s k h.2 (by simpa using hk) (by simpa using hk') (fun h1 h2 => by have := he (by simpa using h1) (by simpa using h2); simpa using this)]
theorem common_le (la lb : List UInt8) : common la lb ≤ la.length ∧ common la lb ≤ lb.length := by
  induction la generalizing lb with
  | nil => simp [common]
  | cons a r ih =>
    cases lb with
    | nil => simp [common]
    | cons b s =>
      simp only [common]
      have := ih s
      split <;> simp <;> omega
theorem common_ne (la lb : List UInt8) : ∀ (h1 : common la lb < la.length) (h2 : common la lb < lb.length), la[common la lb] ≠ lb[common la lb] := by
  induction la generalizing lb with
  | nil => intro h1; simp at h1
  | cons a r ih =>
    cases lb with
    | nil => intro _ h2; simp at h2
    | cons b s =>
      intro h1 h2
      by_cases h : a = b
      · simp only [common, h, if_true] at h1 h2 ⊢
        simpa using ih s (by simpa using h1) (by simpa using h2)
      · simp only [common, h, if_false]
        simpa using h
theorem common_self (l : List UInt8) : common l l = l.length := by
  induction l with
  | nil => rfl
  | cons a r ih => simp [common, ih]
theorem common_eq (la lb : List UInt8) (h1 : common la lb = la.length) (h2 : common la lb = lb.length) : la = lb := by
  induction la generalizing lb with
  | nil => cases lb with | nil => rfl | cons b s => simp [common] at h2
  | cons a r ih =>
    cases lb with
    | nil => simp [common] at h1
    | cons b s =>
      by_cases h : a = b
      · simp [common, h] at h1 h2
        rw [h, ih s h1 h2]
      · simp [common, h] at h1

set_option maxHeartbeats 400000 in
theorem common_any (va vb : Value) (la lb : List UInt8) (w : World) (ha : SB w va la) (hb : SB w vb lb) :
    Calls Try.prog 48 #[va, vb] w fun e w' => e = .returned (.int .i64 (common la lb)) ∧ ∃ n, w' = w.drewN n := by
  obtain ⟨A, ca, rfl, ha, na, ma, -⟩ := ha
  obtain ⟨B, cb, rfl, hb, nb, mb, -⟩ := hb
  unfold maxLen at ma mb
  go_enter Try.func48, Try.ntmps48
  go_wp2
  go_loopw [5] (fun i wr => ∃ k : Nat, k ≤ la.length ∧ k ≤ lb.length ∧ la.take k = lb.take k ∧ i = .int .i64 k ∧ ∃ n, wr = w.drewN n) (fun i _ => la.length - (intOf i).toNat)
  case atStart => exact ⟨0, by omega, by omega, by simp, rfl, 0, rfl⟩
  case round =>
    obtain ⟨k, hka, hkb, htk, rfl, n, rfl⟩ := hrel
    have HT := Lib.hid htk
    clear htk
    by_cases h1 : k < la.length
    · by_cases h2 : k < lb.length
      · obtain ⟨b1, o1, rfl, c1⟩ := ha k h1
        obtain ⟨b2, o2, rfl, c2⟩ := hb k h2
        by_cases h3 : la[k] = lb[k]
        · have H3 := Lib.hid h3
          rw [← h3] at c2
          clear h3
          go_wp2_with fail; go_quiet (fail)
          go_wp2
          go_roundw
          case rel => exact ⟨k + 1, by omega, by omega, by rw [List.take_succ_eq_append_getElem h1, List.take_succ_eq_append_getElem h2, HT.out, H3.out], by go_num, _, rfl⟩
          case measure => simp [intOf]; omega
        · have h4 : (((la[k].toNat : Nat) : Int) == ((lb[k].toNat : Nat) : Int)) = false := by simp; intro h; exact h3 (UInt8.toNat_inj.1 (by omega))
          go_wp2_with fail; go_quiet (fail)
          go_wp2
          go_ret
          exact ⟨by rw [common_at la lb k HT.out hka hkb (fun _ _ => h3)]; rfl, dq _ _ _⟩
      · have h4 : decide (k < lb.length) = false := by simpa using h2
        go_wp2_with fail; go_quiet (fail)
        go_wp2
        go_ret
        exact ⟨by rw [common_at la lb k HT.out hka hkb (fun _ h => by omega)]; rfl, dq _ _ _⟩
    · have h4 : decide (k < la.length) = false := by simpa using h1
      go_wp2_with fail; go_quiet (fail)
      go_wp2
      go_ret
      exact ⟨by rw [common_at la lb k HT.out hka hkb (fun h => by omega)]; rfl, dq _ _ _⟩

/-- the order of two strings, as Compare has it -/
def cmpB (la lb : List UInt8) : Int :=
  if common la lb = la.length ∧ common la lb = lb.length then 0
  else if common la lb = la.length then -1
  else if common la lb = lb.length then 1
  else if (la.getD (common la lb) 0).toNat < (lb.getD (common la lb) 0).toNat then -1 else 1
theorem cmpB_is (la lb : List UInt8) : cmpB la lb = if common la lb = la.length ∧ common la lb = lb.length then 0
  else if common la lb = la.length then -1
  else if common la lb = lb.length then 1
  else if (la.getD (common la lb) 0).toNat < (lb.getD (common la lb) 0).toNat then -1 else 1 := rfl
theorem cmpB_zero (la lb : List UInt8) : cmpB la lb = 0 ↔ la = lb := by
  unfold cmpB
  constructor
  · intro h
    split at h
    · rename_i h'; exact common_eq la lb h'.1 h'.2
    · split at h
      · simp at h
      · split at h
        · simp at h
        · split at h <;> simp at h
  · rintro rfl
    simp [common_self]

set_option maxHeartbeats 400000 in
theorem compare_any (va vb : Value) (la lb : List UInt8) (w : World) (ha : SB w va la) (hb : SB w vb lb) :
    Calls Try.prog 41 #[va, vb] w fun e w' => e = .returned (.int .i64 (cmpB la lb)) ∧ ∃ n, w' = w.drewN n := by
  have sa := ha
  have sb := hb
  obtain ⟨A, ca, rfl, ha, na, ma, -⟩ := ha
  obtain ⟨B, cb, rfl, hb, nb, mb, -⟩ := hb
  unfold maxLen at ma mb
  obtain ⟨l1, l2⟩ := common_le la lb
  have hne := common_ne la lb
  have hcmp := Lib.hid (cmpB_is la lb)
  have hcommon := common_any _ _ la lb w sa sb
  generalize common la lb = c at *
  have HC := Lib.hid hcommon
  clear hcommon
  by_cases e1 : c = la.length
  · have b1 : ((c : Int) == (la.length : Int)) = true := by simp; omega
    have H1 := Lib.hid e1
    by_cases e2 : c = lb.length
    · have b2 : ((c : Int) == (lb.length : Int)) = true := by simp; omega
      have hfin := Lib.hid ((hcmp.out).trans (if_pos ⟨e1, e2⟩))
      clear e1 e2 hne
      go_enter Try.func41, Try.ntmps41
      go_wp2_with (go_at_call 48; refine HC.out.mono ?_; rintro e w' ⟨rfl, n, rfl⟩)
      go_ret
      exact ⟨by rw [hfin.out]; rfl, _, rfl⟩
    · have b2 : ((c : Int) == (lb.length : Int)) = false := by simp; omega
      have hfin := Lib.hid ((hcmp.out).trans ((if_neg (fun h => e2 h.2)).trans (if_pos e1)))
      clear e1 e2 hne
      go_enter Try.func41, Try.ntmps41
      go_wp2_with (go_at_call 48; refine HC.out.mono ?_; rintro e w' ⟨rfl, n, rfl⟩)
      go_ret
      exact ⟨by rw [hfin.out]; rfl, _, rfl⟩
  · have b1 : ((c : Int) == (la.length : Int)) = false := by simp; omega
    by_cases e2 : c = lb.length
    · have b2 : ((c : Int) == (lb.length : Int)) = true := by simp; omega
      have hfin := Lib.hid ((hcmp.out).trans ((if_neg (fun h => e1 h.1)).trans ((if_neg e1).trans (if_pos e2))))
      clear e1 e2 hne
      go_enter Try.func41, Try.ntmps41
      go_wp2_with (go_at_call 48; refine HC.out.mono ?_; rintro e w' ⟨rfl, n, rfl⟩)
      go_ret
      exact ⟨by rw [hfin.out]; rfl, _, rfl⟩
    · have b2 : ((c : Int) == (lb.length : Int)) = false := by simp; omega
      have h1 : c < la.length := by omega
      have h2 : c < lb.length := by omega
      obtain ⟨bl1, o1, rfl, c1⟩ := ha c h1
      obtain ⟨bl2, o2, rfl, c2⟩ := hb c h2
      have hfin := Lib.hid ((hcmp.out).trans ((if_neg (fun h => e1 h.1)).trans ((if_neg e1).trans (if_neg e2))))
      clear e1 e2 hne
      have g1 : la.getD c 0 = la[c] := by simp [List.getD, h1]
      have g2 : lb.getD c 0 = lb[c] := by simp [List.getD, h2]
      rw [g1, g2] at hfin
      clear g1 g2
      by_cases h3 : la[c].toNat < lb[c].toNat
      · have h3' : (la[c].toNat : Int) < (lb[c].toNat : Int) := by omega
        go_enter Try.func41, Try.ntmps41
        go_wp2_with (go_at_call 48; refine HC.out.mono ?_; rintro e w' ⟨rfl, n, rfl⟩)
        go_quiet (fail)
        go_wp2
        go_ret
        exact ⟨by rw [hfin.out, if_pos h3]; rfl, dq _ _ _⟩
      · have h3' : ¬ (la[c].toNat : Int) < (lb[c].toNat : Int) := by omega
        go_enter Try.func41, Try.ntmps41
        go_wp2_with (go_at_call 48; refine HC.out.mono ?_; rintro e w' ⟨rfl, n, rfl⟩)
        go_quiet (fail)
        go_wp2
        go_ret
        exact ⟨by rw [hfin.out, if_neg h3]; rfl, dq _ _ _⟩

theorem same_any (va vb : Value) (la lb : List UInt8) (w : World) (ha : SB w va la) (hb : SB w vb lb) :
    Calls Try.prog 28 #[va, vb] w fun e w' => e = .returned (.bool (la == lb)) ∧ ∃ n, w' = w.drewN n := by
  have HC := Lib.hid (compare_any va vb la lb w ha hb)
  have hz := Lib.hid (cmpB_zero la lb)
  generalize cmpB la lb = c at *
  go_enter Try.func28, Try.ntmps28
  go_wp2_with (go_at_call 41; refine HC.out.mono ?_; rintro e w' ⟨rfl, n, rfl⟩)
  go_ret
  refine ⟨ret_bool ?_, n, rfl⟩
  rw [Bool.eq_iff_iff]
  simp [hz.out]
end Go.Proofs.Ytcbglojjbgenlaa
namespace Go.Proofs.Ytcbglojjbgenlaa
open Go.RowKit
attribute [local go_sem ↓] Go.wp_at_zero Go.wp_at_succ

theorem bytesT : SlT Try.prog 29 5 (.int .u8 0) 1 1 := ⟨Try.underlying29, by kernel_rfl, rfl, by decide⟩

/-- the nibbles of bytes -/
def nibs (l : List UInt8) : List UInt8 := l.flatMap fun x => [x / 16, x % 16]
theorem nibs_snoc (l : List UInt8) (x : UInt8) : nibs (l ++ [x]) = nibs l ++ [x / 16, x % 16] := by simp [nibs]
theorem nibs_length (l : List UInt8) : (nibs l).length = 2 * l.length := by
  induction l with
  | nil => rfl
  | cons a r ih => simp [nibs] at ih ⊢; omega
theorem take_snoc (l : List UInt8) (k : Nat) (h : k < l.length) : l.take (k + 1) = l.take k ++ [l[k]] := List.take_succ_eq_append_getElem h

/-- bytes of pairs of nibbles -/
def unnibs : List UInt8 → List UInt8
  | a :: b :: r => (16 * a + b) :: unnibs r
  | _ => []
theorem unnibs_two (l : List UInt8) (m : Nat) (x y : UInt8) (hx : l[2 * m]? = some x) (hy : l[2 * m + 1]? = some y) : unnibs (l.take (2 * (m + 1))) = unnibs (l.take (2 * m)) ++ [16 * x + y] := by
  induction m generalizing l with
  | zero =>
    match l, hx, hy with
    | a :: b :: r, hx, hy => simp at hx hy; simp [unnibs, hx, hy]
  | succ m ih =>
    match l, hx, hy with
    | a :: b :: r, hx, hy =>
      have e1 : 2 * (m + 1 + 1) = 2 * (m + 1) + 1 + 1 := by omega
      have e2 : 2 * (m + 1) = 2 * m + 1 + 1 := by omega
      rw [e2] at hx hy
      have := ih r (by simpa using hx) (by simpa using hy)
      rw [e1, List.take_succ_cons, List.take_succ_cons, unnibs, this, e2, List.take_succ_cons, List.take_succ_cons, unnibs]
      simp
    | [a], hx, hy => simp at hy
    | [], hx, hy => simp at hx
theorem unnibs_length (l : List UInt8) : (unnibs l).length = l.length / 2 := by
  induction l using unnibs.induct with
  | case1 a b r ih => simp [unnibs, ih]; omega
  | case2 l h =>
    match l, h with
    | [], _ => rfl
    | [a], _ => simp [unnibs]
    | a :: b :: r, h => exact (h a b r rfl).elim

/-- which nibbles are no bytes -/
def badN (l : List UInt8) : Bool := decide (l ≠ []) && (decide (l.length % 2 = 1) || l.any (fun x => decide (15 < x.toNat)))
def refBytes (l : List UInt8) : List UInt8 × Int := if badN l then ([], 2) else (unnibs l, 0)

theorem badN_at (l : List UInt8) (k : Nat) (h : k < l.length) (h' : 15 < l[k].toNat ∨ l.length % 2 = 1) : refBytes l = ([], 2) := by
  have hb : badN l = true := by
    unfold badN
    have hne : l ≠ [] := by intro e; subst e; simp at h
    simp [hne]
    rcases h' with h' | h'
    · exact .inr ⟨l[k], List.getElem_mem h, h'⟩
    · exact .inl h'
  simp [refBytes, hb]
theorem badN_not (l : List UInt8) (h : ∀ k (hk : k < l.length), l[k].toNat ≤ 15) (h' : l.length = 0 ∨ l.length % 2 = 0) : refBytes l = (unnibs l, 0) := by
  have hb : badN l = false := by
    unfold badN
    simp
    intro hne
    refine ⟨by rcases h' with h' | h' <;> omega, fun x hx => ?_⟩
    obtain ⟨k, hk, rfl⟩ := List.mem_iff_getElem.1 hx
    exact h k hk
  simp [refBytes, hb]

end Go.Proofs.Ytcbglojjbgenlaa
namespace Go.Proofs.Ytcbglojjbgenlaa
open Go.RowKit
attribute [local go_sem ↓] Go.wp_at_zero Go.wp_at_succ

/-- v reads as l, and behind it in its own row stands tail. -/
def Roomed (w : World) (base : Nat) (v : Value) (l tail : List UInt8) : Prop :=
  ∃ g cap, v = .slice (some ⟨g, 0, none⟩) l.length cap ∧ OwnB w base (.slice (some ⟨g, 0, none⟩) (l ++ tail).length cap) (l ++ tail)
theorem OwnB.rd {w : World} {base g n cap : Nat} {l : List UInt8} (h : OwnB w base (.slice (some ⟨g, 0, none⟩) n cap) l) : RdB w (some ⟨g, 0, none⟩) l := by
  obtain ⟨A, c, e, hr, _⟩ := h.sb
  injection e with e1 e2 e3
  subst e1
  exact hr
theorem OwnB.cap {w : World} {base g n cap : Nat} {l : List UInt8} (h : OwnB w base (.slice (some ⟨g, 0, none⟩) n cap) l) : l.length ≤ cap ∧ cap ≤ maxLen := by
  obtain ⟨A, c, e, hr, h1, h2, _⟩ := h.sb
  injection e with e1 e2 e3
  subst e3
  exact ⟨h1, h2⟩
theorem Roomed.sb {w : World} {base : Nat} {v : Value} {l tail : List UInt8} (h : Roomed w base v l tail) : SB w v l := by
  obtain ⟨g, cap, rfl, ho⟩ := h
  have hr := ho.rd
  obtain ⟨c1, c2⟩ := ho.cap
  refine ⟨some ⟨g, 0, none⟩, cap, rfl, fun k hk => ?_, by simp at c1; omega, c2, fun h => by cases h⟩
  obtain ⟨b, off, e, hc⟩ := hr k (by simp; omega)
  refine ⟨b, off, e, ?_⟩
  rw [hc, List.getElem_append_left hk]
theorem Roomed.below {w w' : World} {base : Nat} {v : Value} {l tail : List UInt8} (h : Roomed w base v l tail) (hb : Below w.heap.size w w') : Roomed w' base v l tail := by
  obtain ⟨g, cap, rfl, ho⟩ := h
  exact ⟨g, cap, rfl, ho.below hb⟩
theorem Roomed.drewN {w : World} {base : Nat} {v : Value} {l tail : List UInt8} (h : Roomed w base v l tail) (n : Nat) : Roomed (w.drewN n) base v l tail := h

set_option maxHeartbeats 400000 in
theorem roomy_any (va : Value) (l : List UInt8) (w : World) (ha : SB w va l) (hl : l.length ≤ 140737488351232) :
    Calls Try.prog 42 #[va] w fun e w' => ∃ v, e = .returned v ∧ Roomed w' w.heap.size v l [77, 78, 79] ∧ Below w.heap.size w w' := by
  have hsrc := ha.src
  obtain ⟨A, ca, rfl, ha, na, ma, -⟩ := ha
  unfold maxLen at ma
  go_enter Try.func42, Try.ntmps42
  go_wp2_with (first
    | (at_builtin; refine wpList_ap (s := .tmp 3) (x := .tmp 4) bytesT rfl rfl (by rfl) (own_lit w #[] 5 (n := 0) (Nat.le_refl _) (by simp [maxLen]) (by rfl)) (by rfl) (hsrc.below ((Below.refl _ _).alloc (Nat.le_refl _) _)) (bv_one l) (by simp only [maxLen]; omega) (by omega) (by simp) ?_; intro v1 w1 hap1)
    | (at_builtin; refine wpList_ap (s := .tmp 5) (x := .tmp 6) bytesT rfl rfl (by rfl) (own_below hap1.1 ((Below.refl _ _).alloc (Nat.le_refl _) _)) (by rfl) (Src.block (m := 3) (heap_alloc_new _ _) (by rfl)) (by simp [Value.oneCell']) (by simp only [maxLen]; omega) (by omega) (by have := hap1.2.1.size; simp at this ⊢; omega) ?_; intro v2 w2 hap2; obtain ⟨g, cap, rfl, hcap, hcapm, hgb, hgs⟩ := own_form hap2.1 (by omega); unfold maxLen at hcapm))
  go_ret
  refine ⟨_, rfl, ⟨g, cap, rfl, ?_⟩, ?_⟩
  · have h := own_mono hap2.1 (base' := w.heap.size) (Nat.le_refl _)
    have e : (l ++ [77, 78, 79]).length = 0 + l.length + 3 := by simp
    rw [e]
    exact OwnB.of h (by simp [bv])
  · have b1 : Below w.heap.size w w1 := ap_below ((Below.refl _ _).alloc (Nat.le_refl _) _) hap1 (by simp) (fun k hk => by simp [Value.ownBlock] at hk; omega)
    exact ap_below (b1.alloc b1.size _) hap2 (by have := b1.size; simp; omega) (own_ge hap1.1)

/-- w' is w but for new blocks and the blocks of S. -/
structure Chg (S : Nat → Prop) (w w' : World) : Prop where
  os : w'.os = w.os
  tape : w'.tape = w.tape
  output : w'.output = w.output
  size : w.heap.size ≤ w'.heap.size
  block : ∀ k, k < w.heap.size → ¬ S k → w'.heap[k]? = w.heap[k]?
theorem Chg.refl (S : Nat → Prop) (w : World) : Chg S w w := ⟨rfl, rfl, rfl, Nat.le_refl _, fun _ _ _ => rfl⟩
theorem Chg.trans {S : Nat → Prop} {a b c : World} (h : Chg S a b) (k : Chg S b c) : Chg S a c :=
  ⟨k.os.trans h.os, k.tape.trans h.tape, k.output.trans h.output, Nat.le_trans h.size k.size, fun i hi hs => (k.block i (Nat.lt_of_lt_of_le hi h.size) hs).trans (h.block i hi hs)⟩
theorem Chg.mono {S T : Nat → Prop} {w w' : World} (h : Chg S w w') (hs : ∀ k, k < w.heap.size → S k → T k) : Chg T w w' := ⟨h.os, h.tape, h.output, h.size, fun k hk ht => h.block k hk (fun hS => ht (hs k hk hS))⟩
theorem Below.chg {w w' : World} (S : Nat → Prop) (h : Below w.heap.size w w') : Chg S w w' := ⟨h.os, h.tape, h.output, h.size, fun k hk _ => h.block k hk⟩
theorem Chg.bel {B : Nat} {S : Nat → Prop} {w w' : World} (h : Chg S w w') (hs : ∀ k, S k → B ≤ k) (hB : B ≤ w.heap.size) : Below B w w' := ⟨h.os, h.tape, h.output, h.size, fun k hk => h.block k (by omega) (fun hS => by have := hs k hS; omega)⟩
theorem Chg.setCell {S : Nat → Prop} {a w : World} (h : Chg S a w) {p : Addr} (hp : S p.block) (u : Value) : Chg S a (w.setCell p u) :=
  h.trans ⟨rfl, rfl, rfl, by simp [World.setCell], fun k _ hs => Below.heap_setCell _ _ _ _ (fun e => hs (e ▸ hp))⟩
theorem Chg.drewN {S : Nat → Prop} {a w : World} (h : Chg S a w) (n : Nat) : Chg S a (w.drewN n) := ⟨h.os, h.tape, h.output, h.size, h.block⟩
theorem RdB.chg {S : Nat → Prop} {w w' : World} {A : Option Addr} {l : List UInt8} (h : RdB w A l) (hc : Chg S w w') (hs : ∀ a, A = some a → ¬ S a.block) : RdB w' A l := fun k hk => by
  obtain ⟨b, off, e, hcell⟩ := h k hk
  refine ⟨b, off, e, ?_⟩
  rw [World.cell?_of_block (hc.block b (World.block_lt_of_cell? w _ hcell) (hs _ e))]
  exact hcell
theorem own_chg {S : Nat → Prop} {w w' : World} {base : Nat} {e : TypeId} {size : Nat} {v : Value} {n : Nat} {xs : List Value} (h : w.ownsRow base e size v n xs) (hc : Chg S w w') (hs : ∀ k, v.ownBlock = some k → ¬ S k) : w'.ownsRow base e size v n xs := by
  refine ⟨h.1, ?_⟩
  rcases h.2 with hn | ⟨g, cap, cur, rfl, hbg, hg, rest⟩
  · exact .inl hn
  · exact .inr ⟨g, cap, cur, rfl, hbg, (hc.block g (Array.getElem?_eq_some_iff.1 hg).1 (hs g rfl)).trans hg, rest⟩

theorem bv_xor (x y : UInt8) : Value.int .u8 (bits .xor .u8 ((x.toNat : Nat) : Int) ((y.toNat : Nat) : Int)) = bv (x ^^^ y) := by
  rw [u8_xor_nat _ _ x.toNat_lt y.toNat_lt, bv, UInt8.toNat_xor]
theorem bv_or (x y : UInt8) : Value.int .u8 (bits .or .u8 ((x.toNat : Nat) : Int) ((y.toNat : Nat) : Int)) = bv (x ||| y) := by
  rw [u8_or_nat _ _ x.toNat_lt y.toNat_lt, bv, UInt8.toNat_or]
theorem bv_and (x y : UInt8) : Value.int .u8 (bits .and .u8 ((x.toNat : Nat) : Int) ((y.toNat : Nat) : Int)) = bv (x &&& y) := by
  rw [u8_and_nat _ _ x.toNat_lt y.toNat_lt, bv, UInt8.toNat_and]

/-- the address of a slice that is cut at k -/
def cutA (A : Option Addr) (c k : Nat) : Option Addr := if c = k then A else A.map (·.add k)
theorem run_slice_from {P : Program} {t e : TypeId} {z : Value} {bytes : Nat} (hT : SlT P t e z 1 bytes) (A : Option Addr) (n c lo : Nat) (h : lo ≤ n) (w : World) :
    (Instr.slice t (.slice A n c) (some (.int .i64 (lo : Int))) none none).run P w = .ok (.slice (cutA A c lo) (n - lo) (c - lo)) w := by
  obtain ⟨i, hi, hz, hs, hby⟩ := info_parts hT.info
  have he : P.elem t = e := by simp [Program.elem, hT.und]
  have ht : P.underlying t = some (.slice (P.elem t)) := by rw [he]; exact hT.und
  have := run_slice_l (P := P) (w := w) (t := t) (a := A) (len := n) (cap := c) ht .i64 (lo : Int) (by omega) (by omega)
  rw [this, he]
  simp [sizeOf, typeInfo, hi, hs, sliced, cutA]
theorem run_slice_fromto {P : Program} {t e : TypeId} {z : Value} {bytes : Nat} (hT : SlT P t e z 1 bytes) (A : Option Addr) (n c lo hi : Nat) (h : lo ≤ hi) (h' : hi ≤ c) (w : World) :
    (Instr.slice t (.slice A n c) (some (.int .i64 (lo : Int))) (some (.int .i64 (hi : Int))) none).run P w = .ok (.slice (cutA A c lo) (hi - lo) (c - lo)) w := by
  obtain ⟨i, hi', hz, hs, hby⟩ := info_parts hT.info
  have he : P.elem t = e := by simp [Program.elem, hT.und]
  have ht : P.underlying t = some (.slice (P.elem t)) := by rw [he]; exact hT.und
  have := run_slice_lh (P := P) (w := w) (t := t) (a := A) (len := n) (cap := c) ht .i64 .i64 (lo : Int) (hi : Int) (by omega) (by omega) (by omega)
  rw [this, he]
  simp [sizeOf, typeInfo, hi', hs, sliced, cutA]
theorem RdB.cut {w : World} {A : Option Addr} {l : List UInt8} (h : RdB w A l) {c k : Nat} (hc : l.length ≤ c) : RdB w (cutA A c k) (l.drop k) := fun j hj => by
  have hj' : j < l.length - k := by simpa using hj
  obtain ⟨b, off, rfl, hcell⟩ := h (k + j) (by omega)
  refine ⟨b, off + k, ?_, ?_⟩
  · unfold cutA
    rw [if_neg (by omega), Option.map_some, addr_add]
  · rw [Nat.add_assoc, hcell, List.getElem_drop]
theorem RdB.take {w : World} {A : Option Addr} {l : List UInt8} (h : RdB w A l) (n : Nat) : RdB w A (l.take n) := fun j hj => by
  obtain ⟨b, off, e, hcell⟩ := h j (by simp at hj; omega)
  refine ⟨b, off, e, ?_⟩
  rw [hcell, List.getElem_take]

/-- Turn's bytes -/
def turned (l : List UInt8) : List UInt8 := l.map (· ^^^ 1)

theorem OwnB.stored {w : World} {base g cap n : Nat} {l : List UInt8} (h : OwnB w base (.slice (some ⟨g, 0, none⟩) n cap) l) (hn : n = l.length) (j : Nat) (x : UInt8) :
    OwnB (w.setCell ⟨g, j, none⟩ (bv x)) base (.slice (some ⟨g, 0, none⟩) n cap) (l.set j x) := by
  subst hn
  have h' := (World.ownsRow.stored (h := h) (j := j) (u := bv x)).1
  refine OwnB.of h' ?_
  rw [List.map_set]
theorem OwnB.cell {w : World} {base g cap n : Nat} {l : List UInt8} (h : OwnB w base (.slice (some ⟨g, 0, none⟩) n cap) l) (j : Nat) (hj : j < l.length) : w.cell? ⟨g, j, none⟩ = some (.int .u8 ((l[j].toNat : Nat) : Int)) := by
  obtain ⟨b, off, e, hc⟩ := h.rd j hj
  injection e with e
  injection e with e1 e2
  subst e1 e2
  simpa using hc
theorem OwnB.unfrozen {w : World} {base g cap n : Nat} {l : List UInt8} (h : OwnB w base (.slice (some ⟨g, 0, none⟩) n cap) l) (j : Nat) : w.frozen? ⟨g, j, none⟩ = false := by
  rcases h.2 with ⟨e, _⟩ | ⟨g', cap', cur, e, _, hg, _⟩
  · cases e
  · injection e with e
    injection e with e
    injection e with e
    subst e
    exact frozen_of_row _ _ _ _ _ hg

theorem OwnB.at {w : World} {base g cap n : Nat} {p q : List UInt8} {x : UInt8} (h : OwnB w base (.slice (some ⟨g, 0, none⟩) n cap) (p ++ x :: q)) : w.cell? ⟨g, p.length, none⟩ = some (.int .u8 ((x.toNat : Nat) : Int)) := by
  have := h.cell p.length (by simp)
  simpa using this
theorem OwnB.put {w : World} {base g cap n : Nat} {p q : List UInt8} {x : UInt8} (h : OwnB w base (.slice (some ⟨g, 0, none⟩) n cap) (p ++ x :: q)) (hn : n = (p ++ x :: q).length) (y : UInt8) :
    OwnB (w.setCell ⟨g, p.length, none⟩ (bv y)) base (.slice (some ⟨g, 0, none⟩) n cap) (p ++ y :: q) := by
  have := h.stored hn p.length y
  simpa using this
theorem turned_snoc (l : List UInt8) (x : UInt8) : turned (l ++ [x]) = turned l ++ [x ^^^ 1] := by simp [turned]
theorem turned_length (l : List UInt8) : (turned l).length = l.length := by simp [turned]

end Go.Proofs.Ytcbglojjbgenlaa
namespace Go.Proofs.Ytcbglojjbgenlaa
open Go.RowKit
attribute [local go_sem ↓] Go.wp_at_zero Go.wp_at_succ

theorem listsT : SlT Try.prog 60 29 (.slice none 0 0) 1 24 := ⟨Try.underlying60, by kernel_rfl, rfl, by decide⟩

/-- A leads to cells that hold the values vs. -/
def RdV (w : World) (A : Option Addr) (vs : List Value) : Prop :=
  ∀ k (h : k < vs.length), ∃ b off, A = some ⟨b, off, none⟩ ∧ w.cell? ⟨b, off + k, none⟩ = some vs[k]
theorem RdV.chg {S : Nat → Prop} {w w' : World} {A : Option Addr} {vs : List Value} (h : RdV w A vs) (hc : Chg S w w') (hs : ∀ a, A = some a → ¬ S a.block) : RdV w' A vs := fun k hk => by
  obtain ⟨b, off, e, hcell⟩ := h k hk
  refine ⟨b, off, e, ?_⟩
  rw [World.cell?_of_block (hc.block b (World.block_lt_of_cell? w _ hcell) (hs _ e))]
  exact hcell
theorem RdV.own {w : World} {base : Nat} {e : TypeId} {v : Value} {n : Nat} {vs : List Value} (h : w.ownsRow base e 1 v n vs) : ∃ A c, v = .slice A vs.length c ∧ RdV w A vs ∧ vs.length ≤ c ∧ c ≤ maxLen ∧ (∀ a, A = some a → v.ownBlock = some a.block) := by
  have h' := h
  have hl : vs.length = n := by simpa using h.1
  subst hl
  rcases h.2 with ⟨rfl, h0⟩ | ⟨g, cap, cur, rfl, hb, hg, hn, hm, hc, ht⟩
  · refine ⟨none, 0, by rw [h0], fun k hk => by omega, by omega, by simp [maxLen], fun a ha => by cases ha⟩
  · refine ⟨_, _, rfl, fun k hk => ⟨g, 0, rfl, ?_⟩, hn, hm, fun a ha => by cases ha; rfl⟩
    have := h'.cells (g := g) rfl k vs[k] (List.getElem?_eq_getElem hk)
    rwa [addr_add] at this

def mk (i : Nat) : UInt8 := UInt8.ofNat (i + 1)
theorem mk_bv (i : Nat) : bv (mk i) = .int .u8 (IntKind.u8.wrap ((i : Int) + 1)) := by
  simp [bv, mk, IntKind.wrap_u8]
theorem mk_val (i : Nat) : Value.int .u8 (((mk i).toNat : Nat) : Int) = .int .u8 (IntKind.u8.wrap ((i : Int) + 1)) := mk_bv i

/-- the slices vs own rows with the contents f -/
def OwnF (w : World) (base : Nat) (vs : List Value) (f : Nat → List UInt8) : Prop := ∀ i (h : i < vs.length), OwnB w base vs[i] (f i)
def Dist (vs : List Value) : Prop := ∀ i j (hi : i < vs.length) (hj : j < vs.length), i ≠ j → ∀ g, vs[i].ownBlock = some g → vs[j].ownBlock ≠ some g
def InS (vs : List Value) (k : Nat) : Prop := ∃ i, ∃ h : i < vs.length, vs[i].ownBlock = some k

theorem OwnF.congr {w : World} {base : Nat} {vs : List Value} {f f' : Nat → List UInt8} (h : OwnF w base vs f) (he : ∀ i, i < vs.length → f i = f' i) : OwnF w base vs f' := fun i hi => he i hi ▸ h i hi

theorem OwnF.store {w : World} {base : Nat} {vs : List Value} {f : Nat → List UInt8} (h : OwnF w base vs f) (hd : Dist vs) {k : Nat} (hk : k < vs.length) {g c : Nat} (hv : vs[k] = .slice (some ⟨g, 0, none⟩) (f k).length c) (j : Nat) (x : UInt8) :
    OwnF (w.setCell ⟨g, j, none⟩ (bv x)) base vs (fun i => if i = k then (f k).set j x else f i) := fun i hi => by
  by_cases e : i = k
  · subst e
    simp only [if_true]
    have := h i hk
    rw [hv] at this ⊢
    exact this.stored rfl j x
  · simp only [if_neg e]
    refine own_chg (h i hi) ((Chg.refl (· = g) w).setCell rfl _) (fun b hb hbg => ?_)
    subst hbg
    exact hd i k hi hk e b hb (by rw [hv]; rfl)

theorem set_rep {x : UInt8} (l : List UInt8) (j : Nat) (h : j < l.length) : (List.replicate j x ++ l.drop j).set j x = List.replicate (j + 1) x ++ l.drop (j + 1) := by
  have e := List.drop_eq_getElem_cons h
  rw [e, List.set_append_right _ _ (by simp), List.length_replicate, Nat.sub_self, List.set_cons_zero, List.replicate_succ', List.append_assoc]
  rfl

theorem Chg.grown {S : Nat → Prop} {w wr w' : World} {row : Option Nat} (h : Chg S w wr) (hg : wr.grownBy w' row) (hr : ∀ g, row = some g → S g ∨ w.heap.size ≤ g) : Chg S w w' :=
  ⟨hg.os.trans h.os, hg.tape.trans h.tape, hg.output.trans h.output, Nat.le_trans h.size hg.size, fun k hk hs => (hg.block k (Nat.lt_of_lt_of_le hk h.size) (fun e => by
    rcases hr k e.symm with h' | h'
    · exact hs h'
    · omega)).trans (h.block k hk hs)⟩
theorem Chg.alloc {S : Nat → Prop} {w wr : World} (h : Chg S w wr) (o : Obj) : Chg S w (wr.alloc o) :=
  h.trans (Below.chg S ((Below.refl _ _).alloc (Nat.le_refl _) o))
theorem own_grown {w w' : World} {row : Option Nat} {base : Nat} {e : TypeId} {size : Nat} {v : Value} {n : Nat} {xs : List Value} (h : w.ownsRow base e size v n xs) (hg : w.grownBy w' row) (hne : ∀ k, v.ownBlock = some k → row ≠ some k) : w'.ownsRow base e size v n xs :=
  h.kept hg (by
    cases hv : v.ownBlock with
    | none => exact .inl rfl
    | some k => exact .inr (fun e => hne k hv e.symm))
theorem own_type_ne {w : World} {b1 b2 : Nat} {e1 e2 : TypeId} {s1 s2 : Nat} {v1 v2 : Value} {n1 n2 : Nat} {x1 x2 : List Value} (h1 : w.ownsRow b1 e1 s1 v1 n1 x1) (h2 : w.ownsRow b2 e2 s2 v2 n2 x2) (hne : e1 ≠ e2) : ∀ g, v1.ownBlock = some g → v2.ownBlock ≠ some g := by
  intro g hg1 hg2
  rcases h1.2 with ⟨rfl, _⟩ | ⟨g1, c1, cur1, rfl, _, hh1, _⟩
  · simp [Value.ownBlock] at hg1
  rcases h2.2 with ⟨rfl, _⟩ | ⟨g2, c2, cur2, rfl, _, hh2, _⟩
  · simp [Value.ownBlock] at hg2
  simp [Value.ownBlock] at hg1 hg2
  subst hg1 hg2
  rw [hh1] at hh2
  injection hh2 with hh2
  injection hh2 with _ he
  exact hne he
/-- a shorter slice at the same row's head -/
theorem own_prefix {w : World} {base : Nat} {e : TypeId} {v v' : Value} {n n' : Nat} {xs xs' : List Value} (h' : w.ownsRow base e 1 v' n' xs') {base' : Nat} {w0 : World} (h : w0.ownsRow base' e 1 v n xs) (hb : v'.ownBlock = v.ownBlock) (hc : slCap v' = slCap v) (hn : n ≤ n') (hx : xs'.take n = xs) (_hbb : base' ≤ base) : w.ownsRow base' e 1 v n xs := by
  refine ⟨h.1, ?_⟩
  rcases h.2 with hnil | ⟨g, cap, cur, rfl, _, _, hnc, hcm, _, _⟩
  · exact .inl hnil
  rcases h'.2 with ⟨rfl, _⟩ | ⟨g', cap', cur', rfl, hb', hg', hnc', hcm', hcs', ht'⟩
  · simp [Value.ownBlock] at hb
  · simp [Value.ownBlock] at hb
    simp [slCap] at hc
    subst hb hc
    refine .inr ⟨g', cap', cur', rfl, by omega, hg', hnc, hcm, hcs', ?_⟩
    rw [← hx, ← ht', List.take_take]
    congr 1
    omega

def full (f : Nat → List UInt8) (i : Nat) : List UInt8 := List.replicate (f i).length (mk i)
def long (f : Nat → List UInt8) (c : Nat) (i : Nat) : List UInt8 := List.replicate ((f i).length + c) (mk i)

theorem own_one {w : World} {base : Nat} {e : TypeId} {size : Nat} {v : Value} {n : Nat} {xs : List Value} (h : w.ownsRow base e size v n xs) : v.oneCell' = true := by
  rcases h.2 with ⟨rfl, _⟩ | ⟨g, cap, cur, rfl, _⟩ <;> rfl
theorem one_single {u : Value} (h : u.oneCell' = true) : ∀ x ∈ (#[u]).toList, x.oneCell' = true := fun x hx => by
  simp at hx
  subst hx
  exact h

/-- one more byte behind a list: what holds of all the others -/
theorem apart_step {w wi W w' : World} {base k c : Nat} {vs xs : List Value} {u5 x x' : Value} {f : Nat → List UInt8} (hF : OwnF w base vs f) (hD : Dist vs) (h1 : k < vs.length) (hsz0 : w.heap.size ≤ wi.heap.size)
    (hXi : OwnF wi base xs (long f 80)) (hXB : ∀ i (h : i < xs.length) g, xs[i].ownBlock = some g → (∃ h' : i < vs.length, vs[i].ownBlock = some g) ∨ w.heap.size ≤ g) (hxl : xs.length = k)
    (hx : OwnB W base x (long f c k)) (hxb : (x.ownBlock = vs[k].ownBlock ∧ slCap x = slCap vs[k]) ∨ ∃ g, x.ownBlock = some g ∧ wi.heap.size ≤ g)
    (hown : OwnF W base vs (full f)) (hrow : W.ownsRow w.heap.size 29 1 u5 k xs) (hxs : OwnF W base xs (long f 80)) (hchg : Chg (InS vs) w W) (hsz : wi.heap.size ≤ W.heap.size)
    {n : Nat} (hap : Appended W base 5 1 x n ((long f c k).map bv ++ [bv (mk k)]) w' x') :
    OwnB w' base x' (long f (c + 1) k) ∧ ((x'.ownBlock = vs[k].ownBlock ∧ slCap x' = slCap vs[k]) ∨ ∃ g, x'.ownBlock = some g ∧ wi.heap.size ≤ g) ∧
      OwnF w' base vs (full f) ∧ w'.ownsRow w.heap.size 29 1 u5 k xs ∧ OwnF w' base xs (long f 80) ∧ Chg (InS vs) w w' ∧ wi.heap.size ≤ w'.heap.size := by
  have hx' : OwnB w' base x' (long f (c + 1) k) := OwnB.of hap.1 (by
    have e : long f (c + 1) k = long f c k ++ [mk k] := by simp only [long]; rw [← Nat.add_assoc, List.replicate_succ']
    rw [e, List.map_append]; rfl)
  have hg := hap.2.1
  have hblk : ∀ i (hi : i < vs.length) g, vs[i].ownBlock = some g → g < w.heap.size := fun i hi g hg => ((hF i hi).lt g hg).2
  refine ⟨hx', ?_, fun i hi => ?_, ?_, fun i hi => ?_, ?_, Nat.le_trans hsz hg.size⟩
  · rcases hap.2.2 with ⟨e1, e2⟩ | ⟨e1, _⟩
    · rw [e1, e2]; exact hxb
    · exact .inr ⟨_, e1, hsz⟩
  · by_cases hik : i = k
    · subst hik
      rcases hxb with ⟨e1, e2⟩ | ⟨g, e1, e2⟩
      · rcases hap.2.2 with ⟨e3, e4⟩ | ⟨e3, e4⟩
        · refine own_prefix hx' (hown i hi) (e3.trans e1) (e4.trans e2) (by simp [full, long]) ?_ (Nat.le_refl _)
          simp only [full, long, List.map_replicate, List.take_replicate]
          congr 1
          simp
        · exact own_below (hown i hi) e4
      · exact own_grown (hown i hi) hg (fun g' hg' e => by
          have := hblk i hi g' hg'
          rw [e1] at e
          injection e with e
          omega)
    · refine own_grown (hown i hi) hg (fun g' hg' e => ?_)
      rcases hxb with ⟨e1, e2⟩ | ⟨g, e1, e2⟩
      · exact hD i k hi h1 hik g' hg' (e1 ▸ e)
      · have := hblk i hi g' hg'
        rw [e1] at e
        injection e with e
        omega
  · exact own_grown hrow hg (fun g' hg' e => own_type_ne hrow hx (by decide) g' hg' e)
  · refine own_grown (hxs i hi) hg (fun g' hg' e => ?_)
    have hlt := ((hXi i hi).lt g' hg').2
    rcases hxb with ⟨e1, e2⟩ | ⟨g, e1, e2⟩
    · have ek := e1.symm.trans e
      rcases hXB i hi g' hg' with ⟨h', hv⟩ | hge
      · exact hD i k h' h1 (by omega) g' hv ek
      · have := hblk k h1 g' ek
        omega
    · rw [e1] at e
      injection e with e
      omega
  · refine hchg.grown hg (fun g hg' => ?_)
    rcases hxb with ⟨e1, e2⟩ | ⟨g', e1, e2⟩
    · exact .inl ⟨k, h1, e1 ▸ hg'⟩
    · rw [e1] at hg'
      injection hg' with e
      exact .inr (by omega)

end Go.Proofs.Ytcbglojjbgenlaa
