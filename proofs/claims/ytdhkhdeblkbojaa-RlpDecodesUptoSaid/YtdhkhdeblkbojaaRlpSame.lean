/- cairnref05.Same. -/
import Derived.Test.YtdhkhdeblkbojaaRlpBack
import Derived.Laws.IdiomStrings
import Derived.BigQuiet
namespace Go.Proofs.Ytdhkhdeblkbojaa
open Go.RowKit
attribute [local go_sem ↓] Go.wp_at_zero Go.wp_at_succ

open Classical in
noncomputable def sameI (x y : It) : Bool := decide (x = y)
theorem sameI_eq {x y : It} : sameI x y = true ↔ x = y := by unfold sameI; simp

theorem sameI_ne {x y : It} (h : x ≠ y) : sameI x y = false := by unfold sameI; simp [h]

theorem conv_any {w : World} {A : Option Addr} {bs : List UInt8} (c : Nat) (h : RdB w A bs) : (convert 22 9 (.slice A bs.length c)).run Try.prog w = .ok (.string ⟨bs.toArray⟩) w := by
  cases A with
  | none =>
    have hn : bs = [] := by
      cases bs with
      | nil => rfl
      | cons a r => obtain ⟨b, off, e, _⟩ := h 0 (by simp); cases e
    subst hn
    rw [run_convert_bytes_string w 22 9 5 none _ c Try.underlying22 Try.underlying5 Try.underlying9]
    rfl
  | some a =>
    refine run_convert_bytes_back (P := Try.prog) w 22 9 5 a c bs Try.underlying22 Try.underlying5 Try.underlying9 (fun j hj => ?_)
    obtain ⟨b, off, e, hc⟩ := h j hj
    injection e with e
    subst e
    rw [addr_add]
    exact hc

theorem list_same {E F : List Ent} (h : E.length = F.length) (hs : ∀ i (h1 : i < E.length) (h2 : i < F.length), E[i].x = F[i].x) : E.map (·.x) = F.map (·.x) := by
  apply List.ext_getElem (by simpa using h)
  intro i h1 h2
  simp only [List.getElem_map]
  exact hs i (by simpa using h1) (by simpa using h2)

set_option maxRecDepth 100000 in
set_option maxHeartbeats 2000000 in
theorem items_same {w : World} {T : Nat → Prop} {v0 v1 v2 : Value} {x : It} {sv : List Value} (h : RdI w T v0 v1 v2 x sv) :
    ∀ (w' : World) (T' : Nat → Prop) (u0 u1 u2 : Value) (y : It) (sv2 : List Value), Below w.heap.size w w' → RdI w' T' u0 u1 u2 y sv2 →
      Calls Try.prog 28 #[.agg #[v0, v1, v2], .agg #[u0, u1, u2]] w' fun e w'' => e = .returned (.bool (sameI x y)) ∧ Below w'.heap.size w' w'' := by
  induction h with
  | mk l v1 bs A c E h1 h1' h2 h3 h4 h4' h5 h6 ih =>
    intro w' T' u0 u1 u2 y sv2 hbel hy
    cases hy with
    | mk l2 _ bs2 A2 c2 F g1 g1' g2 g3 g4 g4' g5 g6 =>
      have hsrc := h5.below hbel
      have hsb := h1.below hbel
      obtain ⟨A1, c1, rfl, hr1, hc1, hm1, -⟩ := hsb
      obtain ⟨B1, d1, rfl, hs1, hd1, hn1, -⟩ := g1
      unfold maxLen at h3 g3 hm1 hn1
      obtain ⟨al, hi0, hi1, hs2⟩ := al2 w' (.cells #[.bool l, .slice A1 bs.length c1, .slice A E.length c] 42) (.cells #[.bool l2, .slice B1 bs2.length d1, .slice A2 F.length c2] 42)
      have hcv1 := conv_any c1 (hr1.below al)
      have hcv2 := conv_any d1 (hs1.below al)
      have HSrc := Lib.hid (hsrc.below al)
      have HSrc2 := Lib.hid (g5.below al)
      have HIh := Lib.hid ih
      have HB := Lib.hid (bel_trans hbel al)
      have HAL := Lib.hid al
      have HG6 := Lib.hid g6
      have HFm : Hid (∀ (i : Nat) (hi : i < E.length), ∃ l A1 n1 c1 A2 n2 c2, E[i].v0 = .bool l ∧ E[i].v1 = .slice A1 n1 c1 ∧ E[i].v2 = .slice A2 n2 c2) := fun i hi => (h6 E[i] (List.getElem_mem _)).form
      have HFm2 : Hid (∀ (i : Nat) (hi : i < F.length), ∃ l A1 n1 c1 A2 n2 c2, F[i].v0 = .bool l ∧ F[i].v1 = .slice A1 n1 c1 ∧ F[i].v2 = .slice A2 n2 c2) := fun i hi => (g6 F[i] (List.getElem_mem _)).form
      have HI0 := Lib.hid hi0
      have HI1 := Lib.hid hi1
      have HS2 := Lib.hid hs2
      have hel : E.length ≤ 9223372036854775807 := by omega
      have hfl : F.length ≤ 9223372036854775807 := by omega
      clear hsrc ih hbel h1 h5 h6 h4 h4' h1' hr1 hs1 al hi0 hi1 hs2 g1' g4 g4' g5 g6
      by_cases hl : l = l2
      · subst hl
        by_cases hb : bs = bs2
        · subst hb
          by_cases hn : E.length = F.length
          · have hni : (E.length : Int) = (F.length : Int) := by omega
            have HN := Lib.hid hn
            have HNi := Lib.hid hni
            have hneq : ((E.length : Int) != (F.length : Int)) = false := by simp [hni]
            clear hn hni
            go_enter Try.func28, Try.ntmps28
            go_wp2_with fail
            have hal : Below w'.heap.size w' ((w'.alloc (.cells #[.bool l, .slice A1 bs.length c1, .slice A E.length c] 42)).alloc (.cells #[.bool l, .slice B1 bs.length d1, .slice A2 F.length c2] 42)) := HAL.out
            generalize (w'.alloc (.cells #[.bool l, .slice A1 bs.length c1, .slice A E.length c] 42)).alloc (.cells #[.bool l, .slice B1 bs.length d1, .slice A2 F.length c2] 42) = wa at HAL HI0 HI1 HS2 HSrc HSrc2 HB hcv1 hcv2 hal ⊢
            clear hal
            go_loopw [32] (fun v wr => ∃ i : Nat, i ≤ E.length ∧ v = .int .i64 i ∧ Below wa.heap.size wa wr ∧ (∀ j (h1 : j < E.length) (h2 : j < F.length), j < i → E[j].x = F[j].x)) (fun v _ => E.length - (intOf v).toNat)
            case atStart => exact ⟨0, by omega, rfl, Below.refl _ _, fun j _ _ h => by omega⟩
            case round =>
              obtain ⟨i, hi, rfl, hbel, hall⟩ := hrel
              have HAll := Lib.hid hall
              have HBl := Lib.hid hbel
              have hwz : w'.heap.size + 1 < wa.heap.size := by have := HS2.out; omega
              clear hall
              by_cases h1 : i < E.length
              · have h2 : i < F.length := by have := HN.out; omega
                obtain ⟨b, off, rfl, e0, e1, e2⟩ := ent_cell (HSrc.out.below hbel) h1
                obtain ⟨b', off', rfl, g0, g1, g2⟩ := ent_cell (HSrc2.out.below hbel) h2
                have h1i : (i : Int) < (E.length : Int) := by omega
                have h2i : (i : Int) < (F.length : Int) := by omega
                have hi0 : (0 : Int) ≤ (i : Int) := by omega
                obtain ⟨l3, A5, n5, c5, A6, n6, c6, f0, f1, f2⟩ := HFm.out i h1
                obtain ⟨l4, A7, n7, c7, A8, n8, c8, k0, k1, k2⟩ := HFm2.out i h2
                have hc := HIh.out E[i] (List.getElem_mem _) (wr.drewN 1) T' F[i].v0 F[i].v1 F[i].v2 F[i].x F[i].sv (bel_drewN (bel_trans HB.out hbel) 1) ((HG6.out F[i] (List.getElem_mem _)).kept (bel_drewN (bel_trans HAL.out hbel) 1))
                rw [f0, f1, f2, k0, k1, k2] at hc
                rw [f0] at e0
                rw [f1] at e1
                rw [f2] at e2
                rw [k0] at g0
                rw [k1] at g1
                rw [k2] at g2
                have p2 : wr.cell? ⟨w'.heap.size, 2, none⟩ = some (.slice (some ⟨b, off, none⟩) E.length c) := cell_of_row wr w'.heap.size 2 _ _ _ ((hbel.block _ (by omega)).trans HI0.out)
                have q2 : wr.cell? ⟨w'.heap.size + 1, 2, none⟩ = some (.slice (some ⟨b', off', none⟩) F.length c2) := cell_of_row wr (w'.heap.size + 1) 2 _ _ _ ((hbel.block _ (by omega)).trans HI1.out)
                have HC := Lib.hid hc
                clear hc f0 f1 f2 k0 k1 k2 hbel
                cases hd : sameI E[i].x F[i].x with
                | true =>
                  rw [hd] at HC
                  have HD := Lib.hid (sameI_eq.1 hd)
                  clear hd
                  go_wp2_with fail
                  go_region_held3 (fun W => W.cell? ⟨w'.heap.size, 2, none⟩ = some (.slice (some ⟨b, off, none⟩) E.length c) ∧ W.cell? ⟨w'.heap.size + 1, 2, none⟩ = some (.slice (some ⟨b', off', none⟩) F.length c2) ∧ W.cell? ⟨b, off + i * 3, none⟩ = some (.bool l3) ∧ W.cell? ⟨b, off + i * 3 + 1, none⟩ = some (.slice A5 n5 c5) ∧ W.cell? ⟨b, off + i * 3 + 2, none⟩ = some (.slice A6 n6 c6) ∧ W.cell? ⟨b', off' + i * 3, none⟩ = some (.bool l4) ∧ W.cell? ⟨b', off' + i * 3 + 1, none⟩ = some (.slice A7 n7 c7) ∧ W.cell? ⟨b', off' + i * 3 + 2, none⟩ = some (.slice A8 n8 c8)) (first | exact ⟨p2, q2, e0, e1, e2, g0, g1, g2⟩ | exact ⟨cell_later hb9 p2, cell_later hb9 q2, cell_later hb9 e0, cell_later hb9 e1, cell_later hb9 e2, cell_later hb9 g0, cell_later hb9 g1, cell_later hb9 g2⟩)
                    (first
                      | (go_at_call 28; refine (HC.out.mono ?_); rintro en w9 ⟨rfl, hb9⟩))
                  all_goals
                    go_wp2_with fail
                    have hb10 := bel_trans HBl.out (bel_undrewN hb9)
                    refine ⟨⟨i + 1, by omega, by go_num, hb10, fun j h1 h2 hj => ?_⟩, by simp [intOf]; omega⟩
                    by_cases hji : j = i
                    · subst hji; exact HD.out
                    · exact HAll.out j h1 h2 (by omega)
                | false =>
                  rw [hd] at HC
                  have hfin : Hid (sameI (.mk l bs (E.map (·.x))) (.mk l bs (F.map (·.x))) = false) := sameI_ne (fun h => by
                    have h' : E.map (·.x) = F.map (·.x) := by injection h
                    have h3 : E[i].x = F[i].x := by
                      have : (E.map (·.x))[i]? = (F.map (·.x))[i]? := by rw [h']
                      rw [List.getElem?_map, List.getElem?_map, List.getElem?_eq_getElem h1, List.getElem?_eq_getElem h2] at this
                      simpa using this
                    rw [sameI_eq.2 h3] at hd
                    cases hd)
                  clear hd
                  go_wp2_with fail
                  go_region_held3 (fun W => W.cell? ⟨w'.heap.size, 2, none⟩ = some (.slice (some ⟨b, off, none⟩) E.length c) ∧ W.cell? ⟨w'.heap.size + 1, 2, none⟩ = some (.slice (some ⟨b', off', none⟩) F.length c2) ∧ W.cell? ⟨b, off + i * 3, none⟩ = some (.bool l3) ∧ W.cell? ⟨b, off + i * 3 + 1, none⟩ = some (.slice A5 n5 c5) ∧ W.cell? ⟨b, off + i * 3 + 2, none⟩ = some (.slice A6 n6 c6) ∧ W.cell? ⟨b', off' + i * 3, none⟩ = some (.bool l4) ∧ W.cell? ⟨b', off' + i * 3 + 1, none⟩ = some (.slice A7 n7 c7) ∧ W.cell? ⟨b', off' + i * 3 + 2, none⟩ = some (.slice A8 n8 c8)) (first | exact ⟨p2, q2, e0, e1, e2, g0, g1, g2⟩ | exact ⟨cell_later hb9 p2, cell_later hb9 q2, cell_later hb9 e0, cell_later hb9 e1, cell_later hb9 e2, cell_later hb9 g0, cell_later hb9 g1, cell_later hb9 g2⟩)
                    (first
                      | (go_at_call 28; refine (HC.out.mono ?_); rintro en w9 ⟨rfl, hb9⟩))
                  all_goals
                    go_wp2_with fail
                    have hb10 := bel_trans HBl.out (bel_undrewN hb9)
                    go_ret
                    rw [hfin.out]
                    exact ⟨rfl, bel_trans HAL.out hb10⟩
              · have h1i : ¬ (i : Int) < (E.length : Int) := by omega
                have h1f : ¬ (i : Int) < (F.length : Int) := by have := HN.out; omega
                have hmap : E.map (·.x) = F.map (·.x) := list_same HN.out (fun j h1 h2 => HAll.out j h1 h2 (by omega))
                have hfin : Hid (sameI (.mk l bs (E.map (·.x))) (.mk l bs (F.map (·.x))) = true) := sameI_eq.2 (by rw [hmap])
                clear hmap hbel
                go_wp2_with fail
                go_ret
                rw [hfin.out]
                exact ⟨rfl, bel_trans HAL.out HBl.out⟩
          · have hni : ¬ (E.length : Int) = (F.length : Int) := by omega
            have hneq : ((E.length : Int) != (F.length : Int)) = true := by simp; omega
            have hneq2 : ((E.length : Int) == (F.length : Int)) = false := by simp; omega
            have hfin : Hid (sameI (.mk l bs (E.map (·.x))) (.mk l bs (F.map (·.x))) = false) := sameI_ne (fun h => by
              have h' : E.map (·.x) = F.map (·.x) := by injection h
              have := congrArg List.length h'
              simp at this
              exact hn this)
            clear hn
            go_enter Try.func28, Try.ntmps28
            go_wp2_with fail
            go_ret
            rw [hfin.out]
            exact ⟨rfl, HAL.out⟩
        · have hb' : (bs == bs2) = false := by simpa using hb
          have hfin : Hid (sameI (.mk l bs (E.map (·.x))) (.mk l bs2 (F.map (·.x))) = false) := sameI_ne (fun h => by injection h; contradiction)
          clear hb
          go_enter Try.func28, Try.ntmps28
          go_wp2_with fail
          go_ret
          rw [hfin.out]
          exact ⟨rfl, HAL.out⟩
      · have hl' : (l != l2) = true := by simpa using hl
        have hfin : Hid (sameI (.mk l bs (E.map (·.x))) (.mk l2 bs2 (F.map (·.x))) = false) := sameI_ne (fun h => by injection h; contradiction)
        have hl2 : (l == l2) = false := by simpa using hl
        clear hl
        go_enter Try.func28, Try.ntmps28
        go_wp2_with fail
        go_ret
        rw [hfin.out]
        exact ⟨rfl, HAL.out⟩
end Go.Proofs.Ytdhkhdeblkbojaa
