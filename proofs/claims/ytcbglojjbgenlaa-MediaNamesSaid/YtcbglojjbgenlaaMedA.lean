/- Copies: bytes.Clone, slices.Clone, bytes.Equal. -/
import Derived.Test.YtcbglojjbgenlaaMedNil
import Derived.Lib.SliceRun
namespace Go.Proofs.Ytcbglojjbgenlaa
open Go.RowKit
set_option linter.unusedSimpArgs false
set_option linter.unusedVariables false
attribute [local go_sem] size_gr cell_gr frozen_gr setCell_gr gr_drew gr_drewN lt_k lt_kc le_k le_kc sub_kc
attribute [local go_sem ↓] Go.wp_at_zero Go.wp_at_succ

theorem nil29 (w : World) (a : Option Addr) (n c : Nat) : (binOp .eql 29 (.slice a n c) (.slice none 0 0)).run Try.prog w = .ok (.bool a.isNone) w := Go.Lib.run_eql_slice_nil w _ _ a n c 0 0 Try.underlying29
theorem nil28 (w : World) (a : Option Addr) (n c : Nat) : (binOp .eql 28 (.slice a n c) (.slice none 0 0)).run Try.prog w = .ok (.bool a.isNone) w := Go.Lib.run_eql_slice_nil w _ _ a n c 0 0 Try.underlying28
theorem nil49 (w : World) (a : Option Addr) (n c : Nat) : (binOp .eql 49 (.slice a n c) (.slice none 0 0)).run Try.prog w = .ok (.bool a.isNone) w := Go.Lib.run_eql_slice_nil w _ _ a n c 0 0 Try.underlying49
attribute [local go_sem] nil29 nil28 nil49

/-- bytes.Clone: the bytes in a row of their own. -/
theorem bclone_any (v : Value) (l : List UInt8) (w : World) (h : SB w v l) (hl : l.length ≤ 1099511627776) :
    Calls Try.prog 33 #[v] w fun e w' => ∃ A c, e = .returned (.slice A l.length c) ∧ OwnB w' w.heap.size (.slice A l.length c) l ∧ Below w.heap.size w w' := by
  obtain ⟨A, c, rfl, hr, h1, h2, h3⟩ := h
  cases A with
  | none =>
    have hl0 : l = [] := by
      cases l with
      | nil => rfl
      | cons a r => obtain ⟨_, _, e, _⟩ := hr 0 (by simp); cases e
    subst hl0
    have hc := h3 rfl
    subst hc
    clear hr h1 h2 h3 hl
    go_enter Try.func33, Try.ntmps33
    go_wp2
    first | (go_ret; exact ⟨_, _, rfl, OwnB.nil _ _, by (repeat (first | exact Below.refl _ _ | refine bg_al ?_ | refine bg_gr ?_ | refine bg_drn ?_ | refine bg_dr ?_ | assumption))⟩) | (go_end0; exact ⟨_, _, rfl, OwnB.nil _ _, by (repeat (first | exact Below.refl _ _ | refine bg_al ?_ | refine bg_gr ?_ | refine bg_drn ?_ | refine bg_dr ?_ | assumption))⟩)
  | some a =>
    have HS := Lib.hid (show SB w (.slice (some a) l.length c) l from ⟨_, _, rfl, hr, h1, h2, h3⟩)
    have hl' := Lib.hid hl
    clear hr h1 h2 h3 hl
    go_enter Try.func33, Try.ntmps33
    go_wp2_with (at_builtin; refine ap_new [] l l l.length rfl rfl rfl rfl rfl rfl (by rfl) (by simp only [World.size_alloc, size_gr, World.size_setCell, World.size_drew]) (by simp) rfl rfl (by rfl) (HS.out.below (by (repeat (first | exact Below.refl _ _ | refine bg_al ?_ | refine bg_gr ?_ | refine bg_drn ?_ | refine bg_dr ?_ | assumption)))) (by have := hl'.out; simp; omega) ?_; intro D A2 c2 ho hc hm)
    first | (go_ret; exact ⟨_, _, rfl, ho _ (by (repeat (first | (refine at_base ?_; simp only [World.size_alloc, size_gr, World.size_setCell, World.size_drew]; done) | (refine at_base ?_; rfl) | refine at_al ?_ | refine at_gr ?_ | refine at_drn ?_ | refine at_dr ?_ | assumption))), by (repeat (first | exact Below.refl _ _ | refine bg_al ?_ | refine bg_gr ?_ | refine bg_drn ?_ | refine bg_dr ?_ | assumption))⟩) | (go_end0; exact ⟨_, _, rfl, ho _ (by (repeat (first | (refine at_base ?_; simp only [World.size_alloc, size_gr, World.size_setCell, World.size_drew]; done) | (refine at_base ?_; rfl) | refine at_al ?_ | refine at_gr ?_ | refine at_drn ?_ | refine at_dr ?_ | assumption))), by (repeat (first | exact Below.refl _ _ | refine bg_al ?_ | refine bg_gr ?_ | refine bg_drn ?_ | refine bg_dr ?_ | assumption))⟩)

theorem choicesT : SlT Try.prog 28 27 (.agg #[.int .i64 0, .int .i64 0, .int .i64 0]) 3 24 := ⟨Try.underlying28, by kernel_rfl, by rfl, by decide⟩
theorem accessesT : SlT Try.prog 49 95 (.agg #[.int .i64 0, .int .i64 0, .bool false]) 3 24 := ⟨Try.underlying49, by kernel_rfl, by rfl, by decide⟩
theorem changesT : SlT Try.prog 79 82 (.agg #[.map none, .slice none 0 0]) 2 32 := ⟨Try.underlying79, by kernel_rfl, by rfl, by decide⟩
theorem rowsT : SlT Try.prog 60 29 (.slice none 0 0) 1 24 := ⟨Try.underlying60, by kernel_rfl, by rfl, by decide⟩
/-- slices.Clone of choices -/
theorem cclone_any (v : Value) (n : Nat) (cs : List Value) (w : World) (h : Src w 3 v n cs) (h1 : ∀ u ∈ cs, u.oneCell' = true) (hn : n ≤ 1099511627776) (hz : ∀ c, v = .slice none n c → n = 0) :
    Calls Try.prog 31 #[v] w fun e w' => ∃ A c, e = .returned (.slice A n c) ∧ w'.ownsRow w.heap.size 27 3 (.slice A n c) n cs ∧ Below w.heap.size w w' := by
  obtain ⟨A, c, rfl, hl, hr⟩ := h
  cases A with
  | none =>
    obtain rfl := hz _ rfl
    have hl0 : cs = [] := List.eq_nil_of_length_eq_zero (by simpa using hl)
    subst hl0
    clear hl hr h1 hn hz
    go_enter Try.func31, Try.ntmps31
    go_wp2
    first | (go_ret; exact ⟨_, _, rfl, own_nil _ _ _ _, by (repeat (first | exact Below.refl _ _ | refine bg_al ?_ | refine bg_gr ?_ | refine bg_drn ?_ | refine bg_dr ?_ | assumption))⟩) | (go_end0; exact ⟨_, _, rfl, own_nil _ _ _ _, by (repeat (first | exact Below.refl _ _ | refine bg_al ?_ | refine bg_gr ?_ | refine bg_drn ?_ | refine bg_dr ?_ | assumption))⟩)
  | some a =>
    have HS := Lib.hid (show Src w 3 (.slice (some a) n c) n cs from ⟨_, _, rfl, hl, hr⟩)
    have HN := Lib.hid hn
    have H1 := Lib.hid h1
    clear hr hl hn hz h1
    go_enter Try.func31, Try.ntmps31
    go_wp2_with (at_builtin; refine wpList_ap (base := w.heap.size) (n := 0) (xs := []) choicesT rfl rfl (by rfl) (own_lit w #[] 27 (n := 0) (Nat.le_refl _) (by simp [maxLen]) (by rfl)) (by rfl) (HS.out.below (by (repeat (first | exact Below.refl _ _ | refine bg_al ?_ | refine bg_gr ?_ | refine bg_drn ?_ | refine bg_dr ?_ | assumption)))) H1.out (by have := HN.out; simp only [maxLen]; omega) (by have := HN.out; omega) (by simp) ?_; intro v1 w1 hap; simp only [Nat.zero_add, List.nil_append] at hap)
    have HAP := Lib.hid hap
    obtain ⟨A1, c1, rfl, -⟩ := Src.own HAP.out.1
    first | go_ret | go_end0
    exact ⟨_, _, rfl, HAP.out.1, ap_below (bg_al (Below.refl _ _)) HAP.out (by simp) (fun k hk => by simp [Value.ownBlock] at hk; omega)⟩
theorem aclone_any (v : Value) (n : Nat) (cs : List Value) (w : World) (h : Src w 3 v n cs) (h1 : ∀ u ∈ cs, u.oneCell' = true) (hn : n ≤ 1099511627776) (hz : ∀ c, v = .slice none n c → n = 0) :
    Calls Try.prog 36 #[v] w fun e w' => ∃ A c, e = .returned (.slice A n c) ∧ w'.ownsRow w.heap.size 95 3 (.slice A n c) n cs ∧ Below w.heap.size w w' := by
  obtain ⟨A, c, rfl, hl, hr⟩ := h
  cases A with
  | none =>
    obtain rfl := hz _ rfl
    have hl0 : cs = [] := List.eq_nil_of_length_eq_zero (by simpa using hl)
    subst hl0
    clear hl hr h1 hn hz
    go_enter Try.func36, Try.ntmps36
    go_wp2
    first | (go_ret; exact ⟨_, _, rfl, own_nil _ _ _ _, by (repeat (first | exact Below.refl _ _ | refine bg_al ?_ | refine bg_gr ?_ | refine bg_drn ?_ | refine bg_dr ?_ | assumption))⟩) | (go_end0; exact ⟨_, _, rfl, own_nil _ _ _ _, by (repeat (first | exact Below.refl _ _ | refine bg_al ?_ | refine bg_gr ?_ | refine bg_drn ?_ | refine bg_dr ?_ | assumption))⟩)
  | some a =>
    have HS := Lib.hid (show Src w 3 (.slice (some a) n c) n cs from ⟨_, _, rfl, hl, hr⟩)
    have HN := Lib.hid hn
    have H1 := Lib.hid h1
    clear hr hl hn hz h1
    go_enter Try.func36, Try.ntmps36
    go_wp2_with (at_builtin; refine wpList_ap (base := w.heap.size) (n := 0) (xs := []) accessesT rfl rfl (by rfl) (own_lit w #[] 95 (n := 0) (Nat.le_refl _) (by simp [maxLen]) (by rfl)) (by rfl) (HS.out.below (by (repeat (first | exact Below.refl _ _ | refine bg_al ?_ | refine bg_gr ?_ | refine bg_drn ?_ | refine bg_dr ?_ | assumption)))) H1.out (by have := HN.out; simp only [maxLen]; omega) (by have := HN.out; omega) (by simp) ?_; intro v1 w1 hap; simp only [Nat.zero_add, List.nil_append] at hap)
    have HAP := Lib.hid hap
    obtain ⟨A1, c1, rfl, -⟩ := Src.own HAP.out.1
    first | go_ret | go_end0
    exact ⟨_, _, rfl, HAP.out.1, ap_below (bg_al (Below.refl _ _)) HAP.out (by simp) (fun k hk => by simp [Value.ownBlock] at hk; omega)⟩

theorem bytes_beq (la lb : List UInt8) : ((⟨la.toArray⟩ : ByteArray) == ⟨lb.toArray⟩) = (la == lb) := by
  rw [Bool.eq_iff_iff, Go.MapKept.bytes_beq]
  constructor
  · intro e
    injection e with e
    simpa using congrArg Array.toList e
  · intro e
    rw [beq_iff_eq] at e
    rw [e]
theorem beq_any (va vb : Value) (la lb : List UInt8) (w : World) (ha : SB w va la) (hb : SB w vb lb) :
    Calls Try.prog 57 #[va, vb] w fun e w' => e = .returned (.bool (la == lb)) ∧ ∃ n, w' = w.drewN n := by
  have h1 := convS ha
  have h2 := convS hb
  clear ha hb
  have hbb := bytes_beq la lb
  go_enter Try.func57, Try.ntmps57
  go_wp2
  first | go_ret | go_end0
  exact ⟨rfl, 0, rfl⟩
end Go.Proofs.Ytcbglojjbgenlaa
