/- What the encoder tells, in plain words; deeper and may. -/
import Derived.Test.YtdhkhdeblkbojaaRlpSplit
namespace Go.Proofs.Ytdhkhdeblkbojaa
open Go.RowKit
attribute [local go_sem ↓] Go.wp_at_zero Go.wp_at_succ

mutual
def deepI : It → Nat → Bool
  | .mk l _ xs, m => l && (m == 0 || deepL xs (m - 1))
def deepL : List It → Nat → Bool
  | [], _ => false
  | x :: r, m => deepI x m || deepL r m
end
mutual
def mayI : It → Bool
  | .mk l b xs => if l then mayL xs && ((b.length : Int) == 0) else ((xs.length : Int) == 0)
def mayL : List It → Bool
  | [] => true
  | x :: r => mayI x && mayL r
end

theorem flat_cells (E : List Ent) : ∀ {i : Nat} (hi : i < E.length), (E.flatMap Ent.cells)[i * 3]? = some E[i].v0 ∧ (E.flatMap Ent.cells)[i * 3 + 1]? = some E[i].v1 ∧ (E.flatMap Ent.cells)[i * 3 + 2]? = some E[i].v2 := by
  induction E with
  | nil => intro i hi; simp at hi
  | cons e r ih =>
    intro i hi
    cases i with
    | zero => simp [Ent.cells]
    | succ i =>
      have := ih (i := i) (by simpa using hi)
      have hc : e.cells.length = 3 := rfl
      rw [List.flatMap_cons]
      rw [List.getElem?_append_right (by rw [hc]; omega), List.getElem?_append_right (by rw [hc]; omega), List.getElem?_append_right (by rw [hc]; omega), hc]
      rw [show (i + 1) * 3 - 3 = i * 3 by omega, show (i + 1) * 3 + 1 - 3 = i * 3 + 1 by omega, show (i + 1) * 3 + 2 - 3 = i * 3 + 2 by omega]
      simpa using this
theorem cell_spot {w : World} {a : Addr} {v : Value} (h : w.cell? a = some v) : a = ⟨a.block, a.off, none⟩ := by
  unfold World.cell? at h
  split at h
  · split at h
    · cases h
    · rename_i hs
      cases a with
      | mk b o s =>
        cases s with
        | none => rfl
        | some n => simp at hs
  · cases h
/-- the cells of item number i -/
theorem ent_cell {w : World} {A : Option Addr} {c : Nat} {E : List Ent} (h : Src w 3 (.slice A E.length c) E.length (E.flatMap Ent.cells)) {i : Nat} (hi : i < E.length) :
    ∃ b off, A = some ⟨b, off, none⟩ ∧ w.cell? ⟨b, off + i * 3, none⟩ = some E[i].v0 ∧ w.cell? ⟨b, off + i * 3 + 1, none⟩ = some E[i].v1 ∧ w.cell? ⟨b, off + i * 3 + 2, none⟩ = some E[i].v2 := by
  obtain ⟨A', c', e, hl, hn⟩ := h
  injection e with e1 e2 e3
  subst e1
  obtain ⟨f0, f1, f2⟩ := flat_cells E hi
  obtain ⟨g0, -⟩ := flat_cells E (i := 0) (by omega)
  obtain ⟨ad, rfl, h0⟩ := hn _ _ g0
  have hs := cell_spot h0
  simp only [Nat.zero_mul] at hs
  have hs' : ad = ⟨ad.block, ad.off, none⟩ := hs
  generalize ad.block = b at hs'
  generalize ad.off = off at hs'
  subst hs'
  refine ⟨b, off, rfl, ?_, ?_, ?_⟩
  · obtain ⟨ad, e, hc⟩ := hn _ _ f0
    cases e
    rwa [addr_add] at hc
  · obtain ⟨ad, e, hc⟩ := hn _ _ f1
    cases e
    rwa [addr_add] at hc
  · obtain ⟨ad, e, hc⟩ := hn _ _ f2
    cases e
    rwa [addr_add] at hc

theorem drop_map {E : List Ent} {i : Nat} (h : i < E.length) : (E.drop i).map (·.x) = E[i].x :: (E.drop (i + 1)).map (·.x) := by
  rw [List.drop_eq_getElem_cons h]; rfl

set_option maxRecDepth 100000 in
set_option maxHeartbeats 2000000 in
theorem deeper_any {w : World} {T : Nat → Prop} {v0 v1 v2 : Value} {x : It} {sv : List Value} (h : RdI w T v0 v1 v2 x sv) :
    ∀ (w' : World) (m : Nat), Below w.heap.size w w' → m ≤ 80 → Calls Try.prog 53 #[.agg #[v0, v1, v2], .int .i64 (m : Int)] w' fun e w'' => e = .returned (.bool (deepI x m)) ∧ Below w'.heap.size w' w'' := by
  induction h with
  | mk l v1 bs A c E h1 h1' h2 h3 h4 h4' h5 h6 ih =>
    intro w' m hbel hm
    have hsrc := h5.below hbel
    obtain ⟨A1, c1, rfl, -⟩ := h1
    have HSrc := Lib.hid hsrc
    have HIh := Lib.hid ih
    have HB := Lib.hid hbel
    unfold maxLen at h3
    have hel : E.length ≤ 9223372036854775807 := by omega
    have hfm : ∀ (i : Nat) (hi : i < E.length), ∃ l A1 n1 c1 A2 n2 c2, E[i].v0 = .bool l ∧ E[i].v1 = .slice A1 n1 c1 ∧ E[i].v2 = .slice A2 n2 c2 := fun i hi => (h6 E[i] (List.getElem_mem _)).form
    have HFm := Lib.hid hfm
    clear hsrc ih hbel h5 h6 h4 h4' h1' hfm
    cases l with
    | false =>
      have hfin : Hid (deepI (.mk false bs (E.map (·.x))) m = false) := by show _ = _; rw [deepI]; rfl
      go_enter Try.func53, Try.ntmps53
      go_wp2_with fail
      go_ret
      rw [hfin.out]
      exact ⟨rfl, (Below.refl _ _).alloc (Nat.le_refl _) _⟩
    | true =>
      by_cases hm0 : m = 0
      · subst hm0
        have hfin : Hid (deepI (.mk true bs (E.map (·.x))) 0 = true) := by show _ = _; rw [deepI]; rfl
        go_enter Try.func53, Try.ntmps53
        go_wp2_with fail
        go_ret
        rw [hfin.out]
        exact ⟨rfl, (Below.refl _ _).alloc (Nat.le_refl _) _⟩
      · have hfin : Hid (deepI (.mk true bs (E.map (·.x))) m = deepL (E.map (·.x)) (m - 1)) := by show _ = _; rw [deepI]; simp [hm0]
        have hmi : ¬ (m : Int) = 0 := by omega
        go_enter Try.func53, Try.ntmps53
        go_wp2_with fail
        go_loopw [15] (fun v wr => ∃ i : Nat, i ≤ E.length ∧ v = .int .i64 i ∧ Below w'.heap.size w' wr ∧ deepL (E.map (·.x)) (m - 1) = deepL ((E.drop i).map (·.x)) (m - 1)) (fun v _ => E.length - (intOf v).toNat)
        case atStart => exact ⟨0, by omega, rfl, (Below.refl _ _).alloc (Nat.le_refl _) _, by simp⟩
        case round =>
          obtain ⟨i, hi, rfl, hbel, hrest⟩ := hrel
          by_cases h1 : i < E.length
          · obtain ⟨b, off, rfl, e0, e1, e2⟩ := ent_cell (HSrc.out.below hbel) h1
            have h1i : (i : Int) < (E.length : Int) := by omega
            have hi0 : (0 : Int) ≤ (i : Int) := by omega
            obtain ⟨l2, A5, n5, c5, A6, n6, c6, f0, f1, f2⟩ := HFm.out i h1
            have hc := HIh.out E[i] (List.getElem_mem _) (wr.alloc (.cells #[.bool l2, .slice A5 n5 c5, .slice A6 n6 c6] 46)) (m - 1) ((bel_trans HB.out hbel).alloc (by have := hbel.size; have := HB.out.size; omega) _) (by omega)
            rw [f0, f1, f2, show ((m - 1 : Nat) : Int) = (m : Int) - 1 by omega] at hc
            rw [f0] at e0
            rw [f1] at e1
            rw [f2] at e2
            rw [drop_map h1, deepL] at hrest
            have HC := Lib.hid hc
            have HRest := Lib.hid hrest
            have HBl := Lib.hid hbel
            have hsz := hbel.size
            clear hc f0 f1 f2 hrest hbel
            cases hd : deepI E[i].x (m - 1) with
            | true =>
              rw [hd] at HC HRest
              have hfin2 : Hid (deepI (.mk true bs (E.map (·.x))) m = true) := by show _ = _; rw [hfin.out, HRest.out]; rfl
              go_wp2_with fail
              refine HC.out.mono ?_
              rintro en w9 ⟨rfl, hb9⟩
              have HB9 := Lib.hid hb9
              clear hb9 HC
              go_wp2_with fail
              go_ret
              rw [hfin2.out]
              exact ⟨rfl, bel_trans (HBl.out.alloc hsz _) HB9.out⟩
            | false =>
              rw [hd] at HC HRest
              go_wp2_with fail
              refine HC.out.mono ?_
              rintro en w9 ⟨rfl, hb9⟩
              have HB9 := Lib.hid hb9
              clear hb9 HC
              go_wp2_with fail
              refine ⟨⟨i + 1, by omega, by go_num, bel_trans (HBl.out.alloc hsz _) HB9.out, by simpa using HRest.out⟩, by simp [intOf]; omega⟩
          · have hie : i = E.length := by omega
            subst hie
            have h1i : ¬ (E.length : Int) < (E.length : Int) := by omega
            have hfin2 : Hid (deepI (.mk true bs (E.map (·.x))) m = false) := by show _ = _; rw [hfin.out, hrest]; simp [deepL]
            have HBl := Lib.hid hbel
            clear hrest hbel
            go_wp2_with fail
            go_ret
            rw [hfin2.out]
            exact ⟨rfl, HBl.out⟩
set_option maxRecDepth 100000 in
set_option maxHeartbeats 2000000 in
theorem may_any {w : World} {T : Nat → Prop} {v0 v1 v2 : Value} {x : It} {sv : List Value} (h : RdI w T v0 v1 v2 x sv) :
    ∀ (w' : World), Below w.heap.size w w' → Calls Try.prog 54 #[.agg #[v0, v1, v2]] w' fun e w'' => e = .returned (.bool (mayI x)) ∧ Below w'.heap.size w' w'' := by
  induction h with
  | mk l v1 bs A c E h1 h1' h2 h3 h4 h4' h5 h6 ih =>
    intro w' hbel
    have hsrc := h5.below hbel
    obtain ⟨A1, c1, rfl, -⟩ := h1
    have HSrc := Lib.hid hsrc
    have HIh := Lib.hid ih
    have HB := Lib.hid hbel
    unfold maxLen at h3
    have hel : E.length ≤ 9223372036854775807 := by omega
    have hfm : ∀ (i : Nat) (hi : i < E.length), ∃ l A1 n1 c1 A2 n2 c2, E[i].v0 = .bool l ∧ E[i].v1 = .slice A1 n1 c1 ∧ E[i].v2 = .slice A2 n2 c2 := fun i hi => (h6 E[i] (List.getElem_mem _)).form
    have HFm := Lib.hid hfm
    clear hsrc ih hbel h5 h6 h4 h4' h1' hfm
    cases l with
    | false =>
      have hfin : Hid (mayI (.mk false bs (E.map (·.x))) = ((E.length : Int) == 0)) := by show _ = _; rw [mayI]; simp
      go_enter Try.func54, Try.ntmps54
      go_wp2_with fail
      go_ret
      rw [hfin.out]
      exact ⟨rfl, (Below.refl _ _).alloc (Nat.le_refl _) _⟩
    | true =>
        have hfin : Hid (mayI (.mk true bs (E.map (·.x))) = (mayL (E.map (·.x)) && ((bs.length : Int) == 0))) := by show _ = _; rw [mayI]; rfl
        go_enter Try.func54, Try.ntmps54
        go_wp2_with fail
        have hal : Below w'.heap.size w' (w'.alloc (.cells #[.bool true, .slice A1 bs.length c1, .slice A E.length c] 46)) := (Below.refl _ _).alloc (Nat.le_refl _) _
        have hbox := heap_alloc_new w' (.cells #[.bool true, .slice A1 bs.length c1, .slice A E.length c] 46)
        have hwa : (w'.alloc (.cells #[.bool true, .slice A1 bs.length c1, .slice A E.length c] 46)).heap.size = w'.heap.size + 1 := by simp
        generalize w'.alloc (.cells #[.bool true, .slice A1 bs.length c1, .slice A E.length c] 46) = wa at hal hbox hwa ⊢
        have HAL := Lib.hid hal
        have HBox := Lib.hid hbox
        clear hal hbox
        go_loopw [15] (fun v wr => ∃ i : Nat, i ≤ E.length ∧ v = .int .i64 i ∧ Below wa.heap.size wa wr ∧ mayL (E.map (·.x)) = mayL ((E.drop i).map (·.x))) (fun v _ => E.length - (intOf v).toNat)
        case atStart => exact ⟨0, by omega, rfl, Below.refl _ _, by simp⟩
        case round =>
          obtain ⟨i, hi, rfl, hbel0, hrest⟩ := hrel
          have hbel := bel_trans HAL.out (hbel0.mono (by omega))
          have kb : wr.cell? ⟨w'.heap.size, 1, none⟩ = some (.slice A1 bs.length c1) := cell_of_row wr w'.heap.size 1 _ _ _ ((hbel0.block _ (by omega)).trans HBox.out)
          by_cases h1 : i < E.length
          · obtain ⟨b, off, rfl, e0, e1, e2⟩ := ent_cell (HSrc.out.below hbel) h1
            have h1i : (i : Int) < (E.length : Int) := by omega
            have hi0 : (0 : Int) ≤ (i : Int) := by omega
            obtain ⟨l2, A5, n5, c5, A6, n6, c6, f0, f1, f2⟩ := HFm.out i h1
            have hc := HIh.out E[i] (List.getElem_mem _) (wr.alloc (.cells #[.bool l2, .slice A5 n5 c5, .slice A6 n6 c6] 46)) ((bel_trans HB.out hbel).alloc (by have := hbel.size; have := HB.out.size; omega) _)
            rw [f0, f1, f2] at hc
            rw [f0] at e0
            rw [f1] at e1
            rw [f2] at e2
            rw [drop_map h1, mayL] at hrest
            have HC := Lib.hid hc
            have HRest := Lib.hid hrest
            have HBl := Lib.hid hbel
            have HBl0 := Lib.hid hbel0
            have hsz := hbel.size
            have hsz0 := hbel0.size
            clear hc f0 f1 f2 hrest hbel hbel0
            cases hd : mayI E[i].x with
            | false =>
              rw [hd] at HC HRest
              have hfin2 : Hid (mayI (.mk true bs (E.map (·.x))) = false) := by show _ = _; rw [hfin.out, HRest.out]; rfl
              go_wp2_with fail
              refine HC.out.mono ?_
              rintro en w9 ⟨rfl, hb9⟩
              have HB9 := Lib.hid hb9
              clear hb9 HC
              go_wp2_with fail
              go_ret
              rw [hfin2.out]
              exact ⟨rfl, bel_trans (HBl.out.alloc hsz _) HB9.out⟩
            | true =>
              rw [hd] at HC HRest
              go_wp2_with fail
              refine HC.out.mono ?_
              rintro en w9 ⟨rfl, hb9⟩
              have HB9 := Lib.hid hb9
              clear hb9 HC
              go_wp2_with fail
              refine ⟨⟨i + 1, by omega, by go_num, bel_trans (HBl0.out.alloc hsz0 _) HB9.out, by simpa using HRest.out⟩, by simp [intOf]; omega⟩
          · have hie : i = E.length := by omega
            subst hie
            have h1i : ¬ (E.length : Int) < (E.length : Int) := by omega
            have hfin2 : Hid (mayI (.mk true bs (E.map (·.x))) = ((bs.length : Int) == 0)) := by show _ = _; rw [hfin.out, hrest]; simp [mayL]
            have HBl := Lib.hid hbel
            clear hrest hbel hbel0
            go_wp2_with fail
            go_ret
            rw [hfin2.out]
            exact ⟨rfl, HBl.out⟩
end Go.Proofs.Ytdhkhdeblkbojaa
