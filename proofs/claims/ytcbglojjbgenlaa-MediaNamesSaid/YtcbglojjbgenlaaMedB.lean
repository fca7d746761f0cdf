/- Choices that may be. -/
import Derived.Test.YtcbglojjbgenlaaMedA
namespace Go.Proofs.Ytcbglojjbgenlaa
open Go.RowKit
set_option linter.unusedSimpArgs false
set_option linter.unusedVariables false
attribute [local go_sem] size_gr cell_gr frozen_gr setCell_gr gr_drew gr_drewN lt_k lt_kc le_k le_kc sub_kc nil29 nil28 nil49
attribute [local go_sem ↓] Go.wp_at_zero Go.wp_at_succ

/-- The address A leads to the cells cs. -/
def RdC (w : World) (A : Option Addr) (cs : List Value) : Prop :=
  ∀ j (h : j < cs.length), ∃ b off, A = some ⟨b, off, none⟩ ∧ w.cell? ⟨b, off + j, none⟩ = some cs[j]
/-- A slice of n elements of k cells each. -/
def SC (w : World) (k : Nat) (v : Value) (n : Nat) (cs : List Value) : Prop :=
  ∃ A c, v = .slice A n c ∧ RdC w A cs ∧ cs.length = n * k ∧ n ≤ c ∧ c ≤ maxLen ∧ (A = none → c = 0)
theorem RdC.below {w w' : World} {A : Option Addr} {l : List Value} (h : RdC w A l) (hb : Below w.heap.size w w') : RdC w' A l := fun k hl => by
  obtain ⟨b, off, e, hc⟩ := h k hl
  exact ⟨b, off, e, by rw [hb.cell (World.block_lt_of_cell? w _ hc)]; exact hc⟩
theorem SC.below {w w' : World} {k n : Nat} {v : Value} {cs : List Value} (h : SC w k v n cs) (hb : Below w.heap.size w w') : SC w' k v n cs := by
  obtain ⟨A, c, e, hr, h1⟩ := h
  exact ⟨A, c, e, hr.below hb, h1⟩
theorem SC.src {w : World} {k n : Nat} {v : Value} {cs : List Value} (h : SC w k v n cs) : Src w k v n cs := by
  obtain ⟨A, c, rfl, hr, hl, _⟩ := h
  refine ⟨A, c, rfl, hl, fun j u hj => ?_⟩
  obtain ⟨hjl, e⟩ := List.getElem?_eq_some_iff.1 hj
  obtain ⟨b, off, e2, hc⟩ := hr j hjl
  exact ⟨_, e2, by rw [addr_add, hc, e]⟩
theorem SC.nz {w : World} {k n : Nat} {v : Value} {cs : List Value} (h : SC w k v n cs) : ∀ c, v = .slice none n c → n = 0 := by
  obtain ⟨A, c, rfl, hr, hl, h1, h2, h3⟩ := h
  intro c' e
  injection e with e1 e2 e3
  have := h3 e1
  omega
theorem SC.own {w : World} {base : Nat} {e : TypeId} {k n : Nat} {v : Value} {cs : List Value} (h : w.ownsRow base e k v n cs) : SC w k v n cs := by
  have h' := h
  rcases h.2 with ⟨rfl, rfl⟩ | ⟨g, cap, cur, rfl, hb, hg, hn, hm, hc, ht⟩
  · have hx : cs = [] := List.eq_nil_of_length_eq_zero (by simpa using h.1)
    subst hx
    exact ⟨none, 0, rfl, fun j hj => by simp at hj, by simp, by simp, by simp [maxLen], fun _ => rfl⟩
  · refine ⟨some ⟨g, 0, none⟩, cap, rfl, fun j hj => ⟨g, 0, rfl, ?_⟩, h.1, hn, hm, fun h => by cases h⟩
    have := h'.cells (g := g) rfl j _ (List.getElem?_eq_getElem hj)
    rw [addr_add] at this
    exact this
theorem SC.nil (w : World) (k : Nat) : SC w k (.slice none 0 0) 0 [] := ⟨none, 0, rfl, fun j hj => by simp at hj, by simp, by simp, by simp [maxLen], fun _ => rfl⟩

/-- A choice: kind, N, M. -/
abbrev Ch := Int × Int × Int
def chC (c : Ch) : List Value := [.int .i64 c.1, .int .i64 c.2.1, .int .i64 c.2.2]
theorem chC_len (l : List Ch) : (l.flatMap chC).length = l.length * 3 := by
  induction l with
  | nil => rfl
  | cons a r ih => simp [List.flatMap_cons, chC, ih]; omega
theorem chC_at : ∀ (l : List Ch) (k : Nat) (h : k < l.length) (j : Nat) (hj : j < 3), (l.flatMap chC)[k * 3 + j]? = (chC l[k])[j]?
  | a :: r, 0, _, j, hj => by
    simp only [List.flatMap_cons, Nat.zero_mul, Nat.zero_add, List.getElem_cons_zero]
    rw [List.getElem?_append_left (by simpa [chC] using hj)]
  | a :: r, k + 1, h, j, hj => by
    simp only [List.flatMap_cons, List.getElem_cons_succ]
    rw [List.getElem?_append_right (by simp [chC]; omega), ← chC_at r k (by simpa using h) j hj]
    congr 1
    simp [chC]; omega
theorem chC_one (l : List Ch) : ∀ u ∈ l.flatMap chC, u.oneCell' = true := by
  intro u hu
  obtain ⟨c, _, h⟩ := List.mem_flatMap.1 hu
  simp [chC] at h
  rcases h with rfl | rfl | rfl <;> rfl
def chOk (c : Ch) : Bool := decide (0 ≤ c.1 ∧ c.1 < 8 ∧ 0 ≤ c.2.1 ∧ 0 ≤ c.2.2)
def mayB (cs : List Ch) : Bool := decide (cs.length ≤ 4096) && cs.all chOk
theorem SC.ch {w : World} {A : Option Addr} {cs : List Ch} (h : RdC w A (cs.flatMap chC)) (k : Nat) (hk : k < cs.length) :
    ∃ b off, A = some ⟨b, off, none⟩ ∧ w.cell? ⟨b, off + k * 3, none⟩ = some (.int .i64 cs[k].1) ∧ w.cell? ⟨b, off + k * 3 + 1, none⟩ = some (.int .i64 cs[k].2.1) ∧ w.cell? ⟨b, off + k * 3 + 2, none⟩ = some (.int .i64 cs[k].2.2) := by
  have hl := chC_len cs
  have e : ∀ j (hj : j < 3), ∃ b off, A = some ⟨b, off, none⟩ ∧ w.cell? ⟨b, off + (k * 3 + j), none⟩ = (chC cs[k])[j]? := fun j hj => by
    obtain ⟨b, off, e, hc⟩ := h (k * 3 + j) (by omega)
    refine ⟨b, off, e, ?_⟩
    rw [hc, ← chC_at cs k hk j hj, List.getElem?_eq_getElem]
  obtain ⟨b, off, e0, h0⟩ := e 0 (by omega)
  obtain ⟨b1, off1, e1, h1⟩ := e 1 (by omega)
  obtain ⟨b2, off2, e2, h2⟩ := e 2 (by omega)
  subst e0
  injection e1 with e1; injection e1 with x1 x2
  injection e2 with e2; injection e2 with y1 y2
  subst x1 x2 y1 y2
  exact ⟨b, off, rfl, h0, h1, h2⟩

theorem mayBe_any (v : Value) (cs : List Ch) (w : World) (h : SC w 3 v cs.length (cs.flatMap chC)) (hn : cs.length ≤ 1099511627776) :
    Calls Try.prog 30 #[v] w fun e w' => e = .returned (.bool (mayB cs)) ∧ Below w.heap.size w w' := by
  have HM := Lib.hid (show mayB cs = (decide (cs.length ≤ 4096) && cs.all chOk) from rfl)
  obtain ⟨A, c, rfl, hr, hl, h1, h2, h3⟩ := h
  have HN := Lib.hid hn
  have HR := Lib.hid hr
  by_cases hbig : 4096 < cs.length
  · have hb : (4096 : Int) < (cs.length : Int) := by omega
    have hfin : mayB cs = false := by rw [HM.out]; simp; omega
    have HF := Lib.hid hfin
    clear hr hl h1 h2 h3 hn hfin hbig
    go_enter Try.func30, Try.ntmps30
    go_wp2
    first | go_ret | go_end0
    exact ⟨by rw [HF.out]; rfl, by (repeat (first | exact Below.refl _ _ | refine bg_al ?_ | refine bg_gr ?_ | refine bg_drn ?_ | refine bg_dr ?_ | assumption))⟩
  · have hb : ¬ (4096 : Int) < (cs.length : Int) := by omega
    have HBIG := Lib.hid hbig
    have hc : (cs.length : Int) ≤ 4096 := by omega
    clear hr hl h1 h2 h3 hn hbig
    go_enter Try.func30, Try.ntmps30
    go_wp2
    go_loopw [10] (fun i wr => ∃ k : Nat, k ≤ cs.length ∧ (cs.take k).all chOk = true ∧ i = .int .i64 k ∧ Below w.heap.size w wr) (fun i _ => cs.length - (intOf i).toNat)
    case atStart => exact ⟨0, by omega, by simp, rfl, by (repeat (first | exact Below.refl _ _ | refine bg_al ?_ | refine bg_gr ?_ | refine bg_drn ?_ | refine bg_dr ?_ | assumption))⟩
    case round =>
      obtain ⟨k, hk, hall, rfl, hB⟩ := hrel
      have HALL := Lib.hid hall
      have HB := Lib.hid hB
      by_cases h1 : k < cs.length
      · obtain ⟨b, off, rfl, c0, c1, c2⟩ := SC.ch (HR.out.below hB) k h1
        have hsnoc : (cs.take (k + 1)).all chOk = (chOk cs[k]) := by rw [List.take_succ_eq_append_getElem h1, List.all_append, hall]; simp
        have HSN := Lib.hid hsnoc
        have hlt : b < wr.heap.size := World.block_lt_of_cell? wr _ c0
        have hbad : chOk cs[k] = false → mayB cs = false := fun hc => by
          rw [HM.out, Bool.and_eq_false_iff]
          right
          rw [Bool.eq_false_iff]
          intro h
          have := List.all_eq_true.1 h cs[k] (List.getElem_mem _)
          rw [hc] at this
          cases this
        have HBAD := Lib.hid hbad
        have hchk : chOk cs[k] = decide (0 ≤ cs[k].1 ∧ cs[k].1 < 8 ∧ 0 ≤ cs[k].2.1 ∧ 0 ≤ cs[k].2.2) := rfl
        have HCHK := Lib.hid hchk
        clear hall hB hsnoc hbad hchk
        generalize cs[k].1 = x0 at *
        generalize cs[k].2.1 = x1 at *
        generalize cs[k].2.2 = x2 at *
        have h1' : (k : Int) < (cs.length : Int) := by omega
        by_cases t0 : x0 < 0
        · have HF := Lib.hid (HBAD.out (by rw [HCHK.out]; simp; omega))
          go_wp2
          go_ret
          exact ⟨by rw [HF.out]; rfl, (by have hB := HB.out; (repeat (first | exact Below.refl _ _ | refine bg_al ?_ | refine bg_gr ?_ | refine bg_drn ?_ | refine bg_dr ?_ | assumption)))⟩
        · by_cases t1 : 8 ≤ x0
          · have HF := Lib.hid (HBAD.out (by rw [HCHK.out]; simp; omega))
            go_wp2
            go_ret
            exact ⟨by rw [HF.out]; rfl, (by have hB := HB.out; (repeat (first | exact Below.refl _ _ | refine bg_al ?_ | refine bg_gr ?_ | refine bg_drn ?_ | refine bg_dr ?_ | assumption)))⟩
          · by_cases t2 : x1 < 0
            · have HF := Lib.hid (HBAD.out (by rw [HCHK.out]; simp; omega))
              go_wp2
              go_ret
              exact ⟨by rw [HF.out]; rfl, (by have hB := HB.out; (repeat (first | exact Below.refl _ _ | refine bg_al ?_ | refine bg_gr ?_ | refine bg_drn ?_ | refine bg_dr ?_ | assumption)))⟩
            · by_cases t3 : x2 < 0
              · have HF := Lib.hid (HBAD.out (by rw [HCHK.out]; simp; omega))
                go_wp2
                go_ret
                exact ⟨by rw [HF.out]; rfl, (by have hB := HB.out; (repeat (first | exact Below.refl _ _ | refine bg_al ?_ | refine bg_gr ?_ | refine bg_drn ?_ | refine bg_dr ?_ | assumption)))⟩
              · have HG := Lib.hid (HSN.out.trans (HCHK.out.trans (decide_eq_true ⟨Int.not_lt.1 t0, Int.not_le.1 t1, Int.not_lt.1 t2, Int.not_lt.1 t3⟩)))
                go_wp2
                refine ⟨⟨k + 1, by omega, HG.out, by go_num, (by have hB := HB.out; (repeat (first | exact Below.refl _ _ | refine bg_al ?_ | refine bg_gr ?_ | refine bg_drn ?_ | refine bg_dr ?_ | assumption)))⟩, by simp [intOf]; omega⟩
      · have hkl : k = cs.length := by omega
        have h1' : ¬ (k : Int) < (cs.length : Int) := by omega
        have HF := Lib.hid (show mayB cs = true by
          rw [HM.out, Bool.and_eq_true]
          refine ⟨by have := HBIG.out; simp; omega, ?_⟩
          rw [← HALL.out, hkl, List.take_length])
        clear hall hkl hB
        go_wp2
        go_ret
        exact ⟨by rw [HF.out]; rfl, HB.out⟩
end Go.Proofs.Ytcbglojjbgenlaa
