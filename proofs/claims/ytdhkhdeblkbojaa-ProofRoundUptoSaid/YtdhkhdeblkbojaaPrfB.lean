/- proof.Unpack. cairnref15.span. cairnref15.Unpack. cairnlaw15.num, Same; cairnlaw03.Roomy, AsWas; cairnlaw15.roomy. cairnlaw15.known. The walk of cairnlaw15.ProofPacks. -/
import Derived.Test.YtdhkhdeblkbojaaPrfA
import Derived.Test.YtdhkhdeblkbojaaPrfA
import Derived.Test.YtdhkhdeblkbojaaRefDec2
import Derived.Test.YtdhkhdeblkbojaaGrowApart
set_option linter.unusedSimpArgs false
namespace Go.Proofs.Ytdhkhdeblkbojaa
open Go.RowKit
attribute [local go_sem ↓] Go.wp_at_zero Go.wp_at_succ
attribute [local go_sem] size_gr cell_gr frozen_gr setCell_gr gr_drew gr_drewN lt_k lt_kc le_k le_kc sub_kc

theorem dist_pairwise {l : List Value} : Dist l ↔ l.Pairwise (fun u v => ∀ g, u.ownBlock = some g → v.ownBlock ≠ some g) := by
  rw [List.pairwise_iff_getElem]
  constructor
  · exact fun h i j hi hj hij => h i j hi hj (by omega)
  · intro h i j hi hj hij g hg hg'
    rcases Nat.lt_or_ge i j with h1 | h1
    · exact h i j hi hj h1 g hg hg'
    · exact h j i hj hi (by omega) g hg' hg
theorem Dist.sub {l l' : List Value} (h : Dist l') (hs : l.Sublist l') : Dist l := dist_pairwise.2 ((dist_pairwise.1 h).sublist hs)
theorem RdI.leaf_of {w : World} {T : Nat → Prop} {v0 v1 v2 : Value} {x : It} {sv : List Value} (h : RdI w T v0 v1 v2 x sv) : v0 = .bool x.l ∧ SB w v1 x.b ∧ ∃ t, sv = v1 :: t := by
  cases h with
  | mk l v1 bs A c E h1 => exact ⟨rfl, h1, _, rfl⟩
theorem heads_sub {w : World} {T : Nat → Prop} : ∀ (E : List Ent), (∀ e ∈ E, RdI w T e.v0 e.v1 e.v2 e.x e.sv) → (E.map (·.v1)).Sublist (E.flatMap (·.sv))
  | [], _ => by simp
  | e :: r, h => by
    obtain ⟨-, -, t, ht⟩ := (h e (by simp)).leaf_of
    have := heads_sub r (fun e' he' => h e' (List.mem_cons_of_mem _ he'))
    rw [List.map_cons, List.flatMap_cons, ht, List.cons_append]
    exact List.Sublist.cons_cons _ (this.trans (List.sublist_append_right _ _))

/-- a list of strings that the call made: the list, the strings, no two in one -/
structure NewLs (w w' : World) (A : Option Addr) (cA : Nat) (vs : List Value) (ls : List (List UInt8)) : Prop where
  rd : SLs w' A vs ls
  own : ∀ i (h : i < vs.length), OwnB w' w.heap.size vs[i] (ls[i]'(rd.len ▸ h))
  dist : Dist vs
  apart : ∀ a, A = some a → w.heap.size ≤ a.block ∧ ¬ InS vs a.block
  cap : ls.length ≤ cA ∧ cA ≤ maxLen ∧ (A = none → cA = 0)
theorem NewLs.nil (w w' : World) : NewLs w w' none 0 [] [] :=
  ⟨⟨rfl, fun k hk => (by simp at hk), fun i h => (by simp at h)⟩, fun i h => (by simp at h), fun i j hi => (by simp at hi), fun a h => (by cases h), (by simp [maxLen])⟩
theorem newLs_of {w w' : World} {N n : Nat} {A : Option Addr} {c : Nat} {vs : List Value} {ls : List (List UInt8)} (hrow : w'.ownsRow N 22 1 (.slice A n c) n vs) (hl : vs.length = ls.length) (hN : w.heap.size ≤ N)
    (ho : ∀ i (h : i < vs.length), OwnB w' w.heap.size vs[i] (ls[i]'(hl ▸ h))) (hd : Dist vs) : NewLs w w' A c vs ls := by
  obtain ⟨A', c', e, hr, h1, h2, h3⟩ := RdV.own hrow
  injection e with e1 e2 e3
  subst e1 e3
  refine ⟨⟨hl, hr, fun i hi => (ho i hi).sb⟩, ho, hd, fun a ha => ?_, by omega, h2, ?_⟩
  · have hb := h3 a ha
    refine ⟨by have := own_ge hrow a.block hb; omega, fun hS => ?_⟩
    obtain ⟨i, hi, hg⟩ := hS
    exact own_type_ne hrow (ho i hi) (by decide) a.block hb hg
  · exact (row_caps (by
      have : n = vs.length := by have := hrow.1; simpa using this.symm
      exact hrow)).2.2

def UnpPost (w : World) (r : List (List UInt8) × Int) (e : Ending) (w' : World) : Prop :=
  ∃ A cA vs, e = .returned (.tuple #[.slice A r.1.length cA, .int .i64 r.2]) ∧ NewLs w w' A cA vs r.1 ∧ Below w.heap.size w w'
theorem unpPost_bad {w w' : World} {r : List (List UInt8) × Int} (h : r = ([], 160)) (hb : Below w.heap.size w w') : UnpPost w r (.returned (.tuple #[.slice none 0 0, .int .i64 160])) w' := by
  subst h
  exact ⟨none, 0, [], rfl, NewLs.nil _ _, hb⟩

set_option maxRecDepth 100000 in
set_option maxHeartbeats 8000000 in
theorem unpack_proof (vb : Value) (b : List UInt8) (w : World) (hb : SB w vb b) (hl : b.length ≤ 1099511627776) : Calls Try.prog 47 #[vb] w (UnpPost w (unpR b)) := by
  have HB := Lib.hid hb
  obtain ⟨A, cb, rfl, -⟩ := hb
  by_cases h0 : 131072 < b.length
  · have HH : Hid (unpR b = ([], 160)) := by show _ = _; unfold unpR; rw [if_pos h0]
    have h0' : (131072 : Int) < (b.length : Int) := by omega
    clear h0
    go_enter Try.func47, Try.ntmps47
    go_wp2_with fail
    refine bodyPost_ret (v := .tuple #[.slice none 0 0, .int .i64 160]) (by simp [results, Try.results47, go_sem]) rfl ?_
    exact unpPost_bad HH.out (Below.refl _ _)
  · have h0' : ¬ (131072 : Int) < (b.length : Int) := by omega
    have HU : Hid (unpR b = match decR b with
      | .ok x _ => if x.l = true ∧ x.xs.all (fun y => !y.l && okS y.b) = true then (x.xs.map (·.b), 0) else ([], 160)
      | .bad _ _ => ([], 160)) := by show _ = _; unfold unpR; rw [if_neg h0]; rfl
    clear h0
    cases hD : decR b with
    | bad p c =>
      have hc := decR_bad hD
      rw [hD] at HU
      have HC := Lib.hid (decode_bad hD HB.out (by omega))
      have hne : ¬ c = 0 := by omega
      have hne' : (c == 0) = false := by simp [hne]
      clear hD
      go_enter Try.func47, Try.ntmps47
      go_wp2_with (go_at_call 27; refine HC.out.mono ?_; rintro en w1 ⟨rfl, hb1⟩; obtain ⟨D1, rfl⟩ := gr_of_below hb1; clear hb1)
      refine bodyPost_ret (v := .tuple #[.slice none 0 0, .int .i64 160]) (by simp [results, Try.results47, go_sem]) rfl ?_
      exact unpPost_bad HU.out (by (repeat (first | exact Below.refl _ _ | refine bg_al ?_ | refine bg_gr ?_ | refine bg_drn ?_ | refine bg_dr ?_ | assumption)))
    | ok x q =>
      rw [hD] at HU
      have HC := Lib.hid (decode_ok hD HB.out (by omega))
      have HW := Lib.hid (wt_dec hD).1
      clear hD
      go_enter Try.func47, Try.ntmps47
      go_wp2_with fail
      refine HC.out.mono ?_
      rintro en w1 ⟨v0, v1, v2, sv, rfl, hit, hos, hb1⟩; obtain ⟨D1, rfl⟩ := gr_of_below hb1; clear hb1 HC
      cases hit with
      | mk l v1 bs A2 c2 E h1 h1' h2 h3 h4 h4' h5 h6 =>
      obtain ⟨A1, c1, rfl, -⟩ := h1
      have HE := Lib.hid (fun W i (hb : Below (w.gr D1).heap.size (w.gr D1) W) hi => ent_full h5 h6 (i := i) hb hi)
      have HLf := Lib.hid (fun i (hi : i < E.length) => (h6 E[i] (List.getElem_mem hi)).leaf_of)
      have HD := Lib.hid (hos.2.sub ((heads_sub E h6).trans (List.sublist_cons_self _ _)))
      have HOS := Lib.hid (fun i (hi : i < E.length) => hos.1 E[i].v1 (List.mem_cons_of_mem _ ((heads_sub E h6).subset (List.mem_map.2 ⟨E[i], List.getElem_mem hi, rfl⟩))))
      replace HU : Hid (unpR b = if l = true ∧ (E.map (·.x)).all (fun y => !y.l && okS y.b) = true then ((E.map (·.x)).map (·.b), 0) else ([], 160)) := HU.out
      have hEw : E.length ≤ 17825792 := by have h1 := len_wt (E.map (·.x)); have h2 := HW.out; rw [wtI] at h2; rw [List.length_map] at h1; omega
      unfold maxLen at h3
      have HWb := Lib.hid (fun i (hi : i < E.length) => (show E[i].x.b.length ≤ 17825792 by
        have h1 := wtL_mem (E := E) hi
        have h2 := HW.out
        rw [wtI] at h2
        have h3 : E[i].x.b.length ≤ wtI E[i].x := by cases E[i].x; rw [wtI]; simp only [It.b]; omega
        omega))
      clear h1' h4 h4' h5 h6 hos
      cases l with
      | false =>
        have HH : Hid (unpR b = ([], 160)) := by show _ = _; rw [HU.out]; simp
        clear HU
        go_wp2_with fail
        refine bodyPost_ret (v := .tuple #[.slice none 0 0, .int .i64 160]) (by simp [results, Try.results47, go_sem]) rfl ?_
        exact unpPost_bad HH.out (by (repeat (first | exact Below.refl _ _ | refine bg_al ?_ | refine bg_gr ?_ | refine bg_drn ?_ | refine bg_dr ?_ | assumption)))
      | true =>
        have hBW : Below w.heap.size w ((w.gr D1).alloc (.cells #[.bool true, .slice A1 bs.length c1, .slice A2 E.length c2] 46)) := by (repeat (first | exact Below.refl _ _ | refine bg_al ?_ | refine bg_gr ?_ | refine bg_drn ?_ | refine bg_dr ?_ | assumption))
        have hB1 : Below (w.gr D1).heap.size (w.gr D1) ((w.gr D1).alloc (.cells #[.bool true, .slice A1 bs.length c1, .slice A2 E.length c2] 46)) := by (repeat (first | exact Below.refl _ _ | refine bg_al ?_ | refine bg_gr ?_ | refine bg_drn ?_ | refine bg_dr ?_ | assumption))
        go_wp2_with fail
        generalize (w.gr D1).alloc (.cells #[.bool true, .slice A1 bs.length c1, .slice A2 E.length c2] 46) = wx at hBW hB1 ⊢
        have HBW := Lib.hid hBW
        have HB1 := Lib.hid hB1
        have hxs := hBW.size
        clear hBW hB1
        go_loopw [7, 29] (fun V v wr => ∃ i : Nat, i ≤ E.length ∧ v = .int .i64 i ∧ wr.ownsRow wx.heap.size 22 1 V i ((E.take i).map (·.v1)) ∧ ((E.take i).map (·.x)).all (fun y => !y.l && okS y.b) = true ∧ Below wx.heap.size wx wr) (fun _ v _ => E.length - (intOf v).toNat)
        case atStart => exact ⟨0, by omega, rfl, own_nil _ _ _ _, by simp, Below.refl _ _⟩
        case round =>
          obtain ⟨i, hi, rfl, hrow, hok, hbel⟩ := hrel
          have HRow := Lib.hid hrow
          have HOk := Lib.hid hok
          have HBel := Lib.hid hbel
          have hws := hbel.size
          clear hrow hok hbel
          by_cases hi1 : i < E.length
          · obtain ⟨b2, off, l2, A5, n5, c5, A6, n6, c6, rfl, e0, e1, e2, f0, f1, f2, hbw⟩ := HE.out wr i (HB1.out.trans (HBel.out.mono (by have := HB1.out.size; omega))) hi1
            obtain ⟨g0, g1, -⟩ := HLf.out i hi1
            rw [f0] at g0
            rw [f1] at g1
            injection g0 with g0
            have hn5 : E[i].x.b.length = n5 := by obtain ⟨A', c', e, -⟩ := g1; injection e with _ e _; exact e.symm
            have hb5 := HWb.out i hi1
            have h1i : (i : Int) < (E.length : Int) := by omega
            have hi0 : (0 : Int) ≤ (i : Int) := by omega
            have hsn : Hid ((E.take (i + 1)).map (·.v1) = (E.take i).map (·.v1) ++ [.slice A5 n5 c5] ∧ ((E.take (i + 1)).map (·.x)).all (fun y => !y.l && okS y.b) = (((E.take i).map (·.x)).all (fun y => !y.l && okS y.b) && (!l2 && okS E[i].x.b))) := by
              show _ ∧ _
              rw [← List.take_append_getElem hi1]
              refine ⟨by rw [List.map_append, List.map_cons, List.map_nil, f1], by rw [List.map_append, List.all_append, List.map_cons, List.map_nil, List.all_cons, List.all_nil, Bool.and_true, ← g0]⟩
            have hbad : Hid ((!l2 && okS E[i].x.b) = false → unpR b = ([], 160)) := by
              show _ → _
              intro h
              rw [HU.out, if_neg]
              rintro ⟨-, h'⟩
              rw [List.all_eq_true] at h'
              have := h' E[i].x (List.mem_map.2 ⟨E[i], List.getElem_mem hi1, rfl⟩)
              rw [← g0, h] at this
              cases this
            have HM := fun W => pmay_any A5 E[i].x.b c5 W
            rw [hn5] at HM
            rw [hn5] at hb5
            clear f0 f1 f2 g0 g1 hn5
            cases l2 with
            | true =>
              go_wp2_with fail
              refine bodyPost_ret (v := .tuple #[.slice none 0 0, .int .i64 160]) (by simp [results, Try.results47, go_sem]) rfl ?_
              exact unpPost_bad (hbad.out rfl) (bel_trans HBW.out (HBel.out.alloc HBel.out.size _))
            | false =>
              cases hk : okS E[i].x.b with
              | false =>
                rw [hk] at HM hbad
                have HM := Lib.hid HM
                clear hk
                go_wp2_with (go_at_call 69; refine (HM.out _).mono ?_; rintro en w2 ⟨rfl, rfl⟩)
                refine bodyPost_ret (v := .tuple #[.slice none 0 0, .int .i64 160]) (by simp [results, Try.results47, go_sem]) rfl ?_
                exact unpPost_bad (hbad.out rfl) (bel_trans HBW.out (HBel.out.alloc HBel.out.size _))
              | true =>
                rw [hk] at HM hsn
                have HM := Lib.hid HM
                clear hk hbad
                go_wp2_with (first
                  | (go_at_call 69; refine (HM.out _).mono ?_; rintro en w2 ⟨rfl, rfl⟩)
                  | (at_builtin; refine wpList_ap (s := .tmp 41) (x := .tmp 44) (v := u7) (n := i) (xs := (E.take i).map (·.v1)) (xv := .slice (some ⟨wr.heap.size + 1, 0, none⟩) 1 1) (m := 1) (news := [.slice A5 n5 c5]) listsT rfl rfl rfl (own_below HRow.out (by (repeat (first | exact Below.refl _ _ | refine bg_al ?_ | refine bg_gr ?_ | refine bg_drn ?_ | refine bg_dr ?_ | assumption)))) rfl (Src.block (cs := #[.slice A5 n5 c5]) (t := 22) (fr := (0, 0)) (by (repeat (first | (refine blk_new ?_; first | rfl | (simp only [World.size_alloc, size_gr, World.size_setCell, World.size_drew]; done) | (simp only [World.size_alloc, size_gr, World.size_setCell, World.size_drew]; omega) | omega) | refine blk_dr ?_ | refine blk_drn ?_ | refine blk_al (by simp only [World.size_alloc, size_gr, World.size_setCell, World.size_drew]; omega) ?_ | refine blk_gr (by simp only [World.size_alloc, size_gr, World.size_setCell, World.size_drew]; omega) ?_ | assumption))) rfl) (one_single (u := .slice A5 n5 c5) rfl) (by simp only [maxLen]; omega) (by omega) (by simp only [World.size_alloc]; omega) ?_; intro V1 w9 hap))
                refine ⟨⟨i + 1, by omega, by go_num, by rw [hsn.out.1]; exact hap.1, by rw [hsn.out.2, HOk.out]; rfl, ap_below ((HBel.out.alloc HBel.out.size _).alloc (by simp only [World.size_alloc]; omega) _) hap (by simp only [World.size_alloc]; omega) (own_ge HRow.out)⟩, by simp [intOf]; omega⟩
          · obtain rfl : i = E.length := by omega
            have h1i : ¬ (E.length : Int) < (E.length : Int) := by omega
            have hrow := HRow.out
            have hok := HOk.out
            have htk : E.take E.length = E := List.take_length
            rw [htk] at hrow hok
            have HH : Hid (unpR b = ((E.map (·.x)).map (·.b), 0)) := by show _ = _; rw [HU.out, if_pos ⟨by simp, hok⟩]
            obtain ⟨AV, cV, rfl, -⟩ := Src.own hrow
            have HRow2 := Lib.hid hrow
            clear hrow hok htk
            go_wp2_with fail
            refine bodyPost_ret (v := .tuple #[.slice AV E.length cV, .int .i64 0]) (by simp [results, Try.results47, go_sem]) rfl ?_
            rw [HH.out]
            have hlen : (E.map (·.v1)).length = ((E.map (·.x)).map (·.b)).length := by simp
            refine ⟨AV, cV, E.map (·.v1), by simp, newLs_of HRow2.out hlen hxs (fun j hj => ?_) HD.out, bel_trans HBW.out HBel.out⟩
            have hj' : j < E.length := by simpa using hj
            obtain ⟨l', hl'⟩ := HOS.out j hj'
            obtain ⟨-, g1, -⟩ := HLf.out j hj'
            have hbw := (HB1.out.trans (HBel.out.mono (by have := HB1.out.size; omega)))
            have h1 := (hl'.sb)
            obtain ⟨A7, c7, e7, r7, -⟩ := hl'.form
            obtain ⟨A8, c8, e8, r8, -⟩ := g1
            rw [e7] at e8
            injection e8 with q1 q2 q3
            have hll : l' = E[j].x.b := by
              apply List.ext_getElem q2
              intro k hk hk'
              obtain ⟨b9, o9, e9, hc9⟩ := r7 k hk
              obtain ⟨b10, o10, e10, hc10⟩ := r8 k hk'
              rw [e9, e10] at q1
              cases q1
              rw [hc9] at hc10
              injection hc10 with hc10
              injection hc10 with _ hc10
              exact UInt8.toNat_inj.1 (by omega)
            subst hll
            simp only [List.getElem_map]
            exact hl'.below hbw
end Go.Proofs.Ytdhkhdeblkbojaa
set_option linter.unusedSimpArgs false
namespace Go.Proofs.Ytdhkhdeblkbojaa
open Go.RowKit
attribute [local go_sem ↓] Go.wp_at_zero Go.wp_at_succ
attribute [local go_sem] size_gr cell_gr frozen_gr setCell_gr gr_drew gr_drewN lt_k lt_kc le_k le_kc sub_kc

def SpanPost (w : World) (r : Nat × Nat × Bool) (e : Ending) (w' : World) : Prop :=
  e = .returned (.tuple #[.int .i64 (r.1 : Int), .int .i64 (r.2.1 : Int), .bool r.2.2]) ∧ w = w'

set_option maxRecDepth 100000 in
set_option maxHeartbeats 4000000 in
theorem span_any (vb : Value) (b : List UInt8) (list : Bool) (w : World) (hb : SB w vb b) (hl : b.length ≤ 1099511627776) : Calls Try.prog 70 #[vb, .bool list] w (SpanPost w (spanR b list)) := by
  have HB := Lib.hid hb
  obtain ⟨A, cb, rfl, hrd, -⟩ := hb
  have HR := Lib.hid hrd
  clear hrd
  match b, hl, HB, HR with
  | [], hl, HB, HR =>
    have HH : Hid (spanR [] list = (0, 0, false)) := by show _ = _; unfold spanR; simp
    go_enter Try.func70, Try.ntmps70
    go_wp2_with fail
    refine bodyPost_ret (v := .tuple #[.int .i64 0, .int .i64 0, .bool false]) (by simp [results, Try.results70, go_sem]) rfl ?_
    rw [HH.out]
    exact ⟨rfl, rfl⟩
  | x :: t, hl, HB, HR =>
    have h8 := u8_lt x
    obtain ⟨bl, off, rfl, hc0⟩ := HR.out 0 (by simp)
    simp only [Nat.add_zero, List.getElem_cons_zero] at hc0
    have hge : 1 ≤ (x :: t).length := by simp
    obtain ⟨bb, hbb⟩ : ∃ bb, x :: t = bb := ⟨_, rfl⟩
    have hx0 : (bb.getD 0 0).toNat = x.toNat := by rw [← hbb]; simp
    have HX0 := Lib.hid hx0
    have hne : Hid (bb ≠ []) := by show _ ≠ _; rw [← hbb]; simp
    rw [hbb] at HB HR hl hge ⊢
    clear hbb hx0
    have hb0 : ((bb.length : Int) == 0) = false := beq_eq_false_iff_ne.2 (by omega)
    have hi1 : (0 : Int) < (bb.length : Int) := by omega
    have hn0 : 0 < bb.length := by omega
    by_cases hcl : decide (192 ≤ x.toNat) = list
    · have HS : Hid (spanR bb list = if x.toNat < 128 then (0, 1, true) else if x.toNat % 64 < 56 then (1, 1 + x.toNat % 64, decide (1 + x.toNat % 64 ≤ bb.length)) else match spanN bb (x.toNat % 64 - 55) 1 0 with
          | none => (0, 0, false)
          | some n => (x.toNat % 64 - 54, x.toNat % 64 - 54 + n, decide (x.toNat % 64 - 54 + n ≤ bb.length))) := by
        show _ = _
        unfold spanR
        rw [HX0.out, if_neg (by rintro (h | h); exact hne.out h; exact h hcl)]
        rfl
      have hcl' : (decide ((192 : Int) ≤ ((x.toNat : Nat) : Int)) != list) = false := by
        rw [← hcl]
        simp
        omega
      have hcl2 : decide ((192 : Int) ≤ ((x.toNat : Nat) : Int)) = list := by
        rw [← hcl, decide_eq_decide]
        omega
      clear hcl
      by_cases h1 : x.toNat < 128
      · have h1' : ((x.toNat : Nat) : Int) < 128 := by omega
        have HH : Hid (spanR bb list = (0, 1, true)) := by show _ = _; rw [HS.out, if_pos h1]
        clear h1
        go_enter Try.func70, Try.ntmps70
        go_wp2_with fail
        refine bodyPost_ret (v := .tuple #[.int .i64 0, .int .i64 1, .bool true]) (by simp [results, Try.results70, go_sem]) rfl ?_
        rw [HH.out]
        exact ⟨rfl, rfl⟩
      · have h1' : ¬ ((x.toNat : Nat) : Int) < 128 := by omega
        rw [if_neg h1] at HS
        obtain ⟨c, hc⟩ : ∃ c, x.toNat % 64 = c := ⟨_, rfl⟩
        have hc' : ((x.toNat : Nat) : Int) % 64 = (c : Int) := by omega
        have hc64 : c < 64 := by omega
        rw [hc] at HS
        clear hc h1
        by_cases h2 : c < 56
        · have h2' : (c : Int) < 56 := by omega
          rw [if_pos h2] at HS
          clear h2
          go_enter Try.func70, Try.ntmps70
          go_wp2_with fail
          refine bodyPost_ret (v := .tuple #[.int .i64 1, .int .i64 (1 + (c : Int)), .bool (decide (1 + (c : Int) ≤ (bb.length : Int)))]) (by simp [results, Try.results70, go_sem]) rfl ?_
          rw [HS.out]
          refine ⟨?_, rfl⟩
          rw [show decide (1 + c ≤ bb.length) = decide (1 + (c : Int) ≤ (bb.length : Int)) by rw [decide_eq_decide]; omega]
          simp
        · have h2' : ¬ (c : Int) < 56 := by omega
          rw [if_neg h2] at HS
          obtain ⟨k, rfl⟩ : ∃ k, c = k + 55 := ⟨c - 55, by omega⟩
          have hk1 : 1 ≤ k := by omega
          have hk8 : k ≤ 8 := by omega
          rw [show k + 55 - 55 = k by omega, show k + 55 - 54 = k + 1 by omega] at HS
          clear h2
          go_enter Try.func70, Try.ntmps70
          go_wp2_with fail
          go_loop [8, 9] (fun vn vi => ∃ r i n : Nat, i + r = k + 1 ∧ 1 ≤ i ∧ n ≤ 33554687 ∧ vn = .int .i64 n ∧ vi = .int .i64 i ∧ spanN bb k 1 0 = spanN bb r i n) (fun _ v => k + 1 - (intOf v).toNat)
          case atStart => exact ⟨k, 1, 0, by omega, by omega, by omega, rfl, rfl, rfl⟩
          case round =>
            obtain ⟨r, i, n, hir, hi, hn, rfl, rfl, hs⟩ := hrel
            have HSN := Lib.hid hs
            have HIR := Lib.hid hir
            have hik : i ≤ k + 1 := by omega
            have hrk : Hid (r = k + 1 - i) := by show _ = _; omega
            clear hs hir
            by_cases h3 : i ≤ k
            · have h3' : (i : Int) ≤ (k : Int) := by omega
              obtain ⟨r', hr'⟩ : ∃ r', r = r' + 1 := ⟨r - 1, by have := hrk.out; omega⟩
              have HR' := Lib.hid hr'
              clear hr'
              by_cases h4 : bb.length ≤ i
              · have h4' : (bb.length : Int) ≤ (i : Int) := by omega
                have HH : Hid (spanR bb list = (0, 0, false)) := by show _ = _; rw [HS.out, HSN.out, HR'.out, spanN, if_pos (.inl h4)]
                clear h4
                go_wp2_with fail
                refine bodyPost_ret (v := .tuple #[.int .i64 0, .int .i64 0, .bool false]) (by simp [results, Try.results70, go_sem]) rfl ?_
                rw [HH.out]
                exact ⟨rfl, rfl⟩
              · have h4' : ¬ (bb.length : Int) ≤ (i : Int) := by omega
                have hil : i < bb.length := by omega
                have hii : (i : Int) < (bb.length : Int) := by omega
                have hi0 : (0 : Int) ≤ (i : Int) := by omega
                by_cases h5 : 131072 < n
                · have h5' : (131072 : Int) < (n : Int) := by omega
                  have HH : Hid (spanR bb list = (0, 0, false)) := by show _ = _; rw [HS.out, HSN.out, HR'.out, spanN, if_pos (.inr h5)]
                  clear h4 h5
                  go_wp2_with fail
                  refine bodyPost_ret (v := .tuple #[.int .i64 0, .int .i64 0, .bool false]) (by simp [results, Try.results70, go_sem]) rfl ?_
                  rw [HH.out]
                  exact ⟨rfl, rfl⟩
                · have h5' : ¬ (131072 : Int) < (n : Int) := by omega
                  obtain ⟨b2, o2, heq, hci⟩ := HR.out i hil
                  injection heq with heq
                  injection heq with e1 e2
                  subst e1 e2
                  have h8i := u8_lt bb[i]
                  have HNx : Hid (spanN bb r i n = spanN bb r' (i + 1) (n * 256 + bb[i].toNat)) := by
                    show _ = _
                    rw [HR'.out, spanN, if_neg (by omega), getD_at (l := bb) (k := i) hil]
                  generalize bb[i] = y at *
                  clear h4 h5
                  go_wp2_with fail
                  exact ⟨⟨r', i + 1, n * 256 + y.toNat, by have := HIR.out; have := HR'.out; omega, by omega, by have := y.toNat_lt; omega, by go_num, by go_num, by rw [HSN.out, HNx.out]⟩, by simp [intOf]; omega⟩
            · obtain rfl : i = k + 1 := by omega
              have hr0 : r = 0 := by have := hrk.out; omega
              have h3' : ¬ ((k : Int) + 1) ≤ (k : Int) := by omega
              have HH : Hid (spanR bb list = (k + 1, k + 1 + n, decide (k + 1 + n ≤ bb.length))) := by show _ = _; rw [HS.out, HSN.out, hr0, spanN]
              clear hr0
              go_wp2_with fail
              refine bodyPost_ret (v := .tuple #[.int .i64 ((k : Int) + 1), .int .i64 ((k : Int) + 1 + (n : Int)), .bool (decide ((k : Int) + 1 + (n : Int) ≤ (bb.length : Int)))]) (by simp [results, Try.results70, go_sem]; constructor <;> omega) rfl ?_
              rw [HH.out]
              refine ⟨?_, rfl⟩
              rw [show decide (k + 1 + n ≤ bb.length) = decide ((k : Int) + 1 + (n : Int) ≤ (bb.length : Int)) by rw [decide_eq_decide]; omega]
              simp
    · have HH : Hid (spanR bb list = (0, 0, false)) := by show _ = _; unfold spanR; rw [HX0.out, if_pos (.inr hcl)]
      have hcl' : (decide ((192 : Int) ≤ ((x.toNat : Nat) : Int)) != list) = true := by
        have e : decide ((192 : Int) ≤ ((x.toNat : Nat) : Int)) = decide (192 ≤ x.toNat) := by rw [decide_eq_decide]; omega
        rw [e]
        simpa using hcl
      have hcl2 : decide ((192 : Int) ≤ ((x.toNat : Nat) : Int)) = !list := by
        have e : decide ((192 : Int) ≤ ((x.toNat : Nat) : Int)) = decide (192 ≤ x.toNat) := by rw [decide_eq_decide]; omega
        rw [e]
        cases list <;> simp at hcl ⊢ <;> omega
      clear hcl
      go_enter Try.func70, Try.ntmps70
      go_wp2_with fail
      refine bodyPost_ret (v := .tuple #[.int .i64 0, .int .i64 0, .bool false]) (by simp [results, Try.results70, go_sem]) rfl ?_
      rw [HH.out]
      exact ⟨rfl, rfl⟩
end Go.Proofs.Ytdhkhdeblkbojaa
set_option linter.unusedSimpArgs false
namespace Go.Proofs.Ytdhkhdeblkbojaa
open Go.RowKit
attribute [local go_sem ↓] Go.wp_at_zero Go.wp_at_succ
attribute [local go_sem] size_gr cell_gr frozen_gr setCell_gr gr_drew gr_drewN lt_k lt_kc le_k le_kc sub_kc

theorem spanR_ok {b : List UInt8} {l : Bool} {lo hi : Nat} (h : spanR b l = (lo, hi, true)) : lo ≤ hi ∧ 1 ≤ hi ∧ hi ≤ b.length := by
  unfold spanR at h
  split at h
  · simp at h
  · rename_i hn
    have hb : b ≠ [] := fun e => hn (.inl e)
    have hl : 1 ≤ b.length := by
      cases b with
      | nil => exact absurd rfl hb
      | cons a r => simp
    split at h
    · injection h with h1 h2
      injection h2 with h2 _
      omega
    · split at h
      · injection h with h1 h2
        injection h2 with h2 h3
        have := of_decide_eq_true h3
        omega
      · split at h
        · simp at h
        · injection h with h1 h2
          injection h2 with h2 h3
          have := of_decide_eq_true h3
          omega
theorem sl_ft2 {A : Option Addr} {b : List UInt8} {cb p q m : Nat} (hq : q ≤ b.length) (hp : p ≤ q) (hm : q - p = m) (hc : b.length ≤ cb) : ∀ W, (Instr.slice 22 (.slice A b.length cb) (some (.int .i64 (p : Int))) (some (.int .i64 (q : Int))) none).run Try.prog W = .ok (.slice (cutA A cb p) m (cb - p)) W := fun W => by
  have h := run_slice_fromto bytesT A b.length cb p q (by omega) (by omega) W
  rw [hm] at h
  exact h
theorem sl_ft3 {A : Option Addr} {b : List UInt8} {cb p lo hi m : Nat} (hq : p + hi ≤ b.length) (hp : lo ≤ hi) (hm : hi - lo = m) (hc : b.length ≤ cb) : ∀ W, (Instr.slice 22 (.slice A b.length cb) (some (.int .i64 ((p : Int) + (lo : Int)))) (some (.int .i64 ((p : Int) + (hi : Int)))) none).run Try.prog W = .ok (.slice (cutA A cb (p + lo)) m (cb - (p + lo))) W := fun W => by
  have h := run_slice_fromto bytesT A b.length cb (p + lo) (p + hi) (by omega) (by omega) W
  rw [show p + hi - (p + lo) = m by omega, show ((p + lo : Nat) : Int) = (p : Int) + (lo : Int) by omega, show ((p + hi : Nat) : Int) = (p : Int) + (hi : Int) by omega] at h
  exact h

theorem last_get {α : Type} (l : List α) (a : α) (i : Nat) (h : i < (l ++ [a]).length) (hi : i = l.length) : (l ++ [a])[i] = a := by
  subst hi
  simp
theorem snoc_own {w : World} {base : Nat} {vs : List Value} {ls : List (List UInt8)} {v : Value} {l : List UInt8} (hvl : vs.length = ls.length) (hold : ∀ i (h : i < vs.length), OwnB w base vs[i] (ls[i]'(hvl ▸ h))) (hnew : OwnB w base v l) :
    ∀ i (h : i < (vs ++ [v]).length), OwnB w base (vs ++ [v])[i] ((ls ++ [l])[i]'(by simp at h ⊢; omega)) := fun i h => by
  by_cases hiv : i < vs.length
  · simp only [List.getElem_append_left hiv, List.getElem_append_left (show i < ls.length by rw [← hvl]; exact hiv)]
    exact hold i hiv
  · have hie : i = vs.length := by simp at h; omega
    rw [last_get vs v i h hie, last_get ls l i _ (by omega)]
    exact hnew

set_option maxRecDepth 100000 in
set_option maxHeartbeats 8000000 in
theorem refunpack_any (vb : Value) (b : List UInt8) (w : World) (hb : SB w vb b) (hl : b.length ≤ 1099511627776) : Calls Try.prog 48 #[vb] w (UnpPost w (refU b)) := by
  have HB := Lib.hid hb
  have HC := Lib.hid (span_any vb b true w hb hl)
  obtain ⟨A, cb, rfl, hrd, hcb, hmx, -⟩ := hb
  have HU : Hid (refU b = match spanR b true with
    | (p, q, ok) => if ok = false ∨ 131072 < b.length then ([], 160) else match looseL b (b.length + 1) p q [] with
      | none => ([], 160)
      | some l => if packR l = (b, 0) then (l, 0) else ([], 160)) := rfl
  obtain ⟨p0, q0, ok, hs⟩ : ∃ p0 q0 ok, spanR b true = (p0, q0, ok) := ⟨_, _, _, rfl⟩
  rw [hs] at HC HU
  replace HU : Hid (refU b = if ok = false ∨ 131072 < b.length then (([], 160) : List (List UInt8) × Int) else match looseL b (b.length + 1) p0 q0 [] with
      | none => (([], 160) : List (List UInt8) × Int)
      | some l => if packR l = (b, 0) then (l, 0) else ([], 160)) := HU.out
  have HRd := Lib.hid hrd
  unfold maxLen at hmx
  clear hrd
  by_cases hbad : ok = false ∨ 131072 < b.length
  · rw [if_pos hbad] at HU
    clear hs
    cases ok with
    | false =>
      go_enter Try.func48, Try.ntmps48
      go_wp2_with (go_at_call 70; refine HC.out.mono ?_; rintro en w1 ⟨rfl, rfl⟩)
      refine bodyPost_ret (v := .tuple #[.slice none 0 0, .int .i64 160]) (by simp [results, Try.results48, go_sem]) rfl ?_
      exact unpPost_bad HU.out (Below.refl _ _)
    | true =>
      have h1 : (131072 : Int) < (b.length : Int) := by simp at hbad; omega
      clear hbad
      go_enter Try.func48, Try.ntmps48
      go_wp2_with (go_at_call 70; refine HC.out.mono ?_; rintro en w1 ⟨rfl, rfl⟩)
      refine bodyPost_ret (v := .tuple #[.slice none 0 0, .int .i64 160]) (by simp [results, Try.results48, go_sem]) rfl ?_
      exact unpPost_bad HU.out (Below.refl _ _)
  · rw [if_neg hbad] at HU
    obtain rfl : ok = true := by cases ok <;> simp at hbad ⊢
    have h1 : ¬ (131072 : Int) < (b.length : Int) := by simp at hbad; omega
    obtain ⟨g1, g2, g3⟩ := spanR_ok hs
    clear hbad hs
    go_enter Try.func48, Try.ntmps48
    go_wp2_with (go_at_call 70; refine HC.out.mono ?_; rintro en w1 ⟨rfl, rfl⟩)
    go_loopw [4, 7] (fun vp vl wr => ∃ (p f : Nat) (acc : List (List UInt8)) (vs : List Value) (hvl : vs.length = acc.length), vp = .int .i64 p ∧ p ≤ q0 ∧ wr.ownsRow w.heap.size 22 1 vl acc.length vs ∧ (∀ i (h : i < vs.length), OwnB wr w.heap.size vs[i] (acc[i]'(hvl ▸ h))) ∧ Dist vs ∧ Below w.heap.size w wr ∧
        looseL b (b.length + 1) p0 q0 [] = looseL b f p q0 acc ∧ q0 - p + 1 ≤ f ∧ acc.length ≤ p ∧ (∀ l ∈ acc, l.length ≤ b.length)) (fun v _ _ => q0 - (intOf v).toNat)
    case atStart => exact ⟨p0, b.length + 1, [], [], rfl, rfl, by omega, own_nil _ _ _ _, fun i h => (by simp at h), fun i j h => (by simp at h), Below.refl _ _, rfl, by omega, by simp, fun l h => (by simp at h)⟩
    case round =>
      obtain ⟨p, f, acc, vs, hvl, rfl, hp, hrow, hown, hdist, hbel, hlo, hf, hap, hal⟩ := hrel
      have HRow := Lib.hid hrow
      have HOwn := Lib.hid hown
      have HDist := Lib.hid hdist
      have HBel := Lib.hid hbel
      have HLo := Lib.hid hlo
      have HAl := Lib.hid hal
      have HVl := Lib.hid hvl
      have hws := hbel.size
      clear hrow hown hdist hbel hlo hal
      obtain ⟨f', rfl⟩ : ∃ f', f = f' + 1 := ⟨f - 1, by omega⟩
      by_cases h2 : p < q0
      · have h2' : (p : Int) < (q0 : Int) := by omega
        obtain ⟨bl, off, rfl, -⟩ := HRd.out 0 (by omega)
        obtain ⟨m, hm⟩ : ∃ m, q0 - p = m := ⟨_, rfl⟩
        have hsl := sl_ft2 (A := some ⟨bl, off, none⟩) (b := b) (cb := cb) (p := p) (q := q0) g3 hp hm hcb
        have HSp := Lib.hid (span_any _ ((b.drop p).take m) false wr (sb_ft (HRd.out.below HBel.out) (by omega) hcb (by unfold maxLen; omega)) (by simp; omega))
        obtain ⟨lo, hi, r, hs⟩ : ∃ lo hi r, spanR ((b.drop p).take m) false = (lo, hi, r) := ⟨_, _, _, rfl⟩
        have HStep : Hid (looseL b (f' + 1) p q0 acc = if r = true then looseL b f' (p + hi) q0 (acc ++ [(b.drop (p + lo)).take (hi - lo)]) else none) := by
          show _ = _
          rw [looseL, if_neg (by omega), hm, hs]
        rw [hs] at HSp
        have HM := Lib.hid hm
        cases r with
        | false =>
          have HH : Hid (refU b = ([], 160)) := by show _ = _; rw [HU.out, HLo.out, HStep.out]; rfl
          clear hm hs
          go_wp2_with (go_at_call 70; refine HSp.out.mono ?_; rintro en w1 ⟨rfl, rfl⟩)
          refine bodyPost_ret (v := .tuple #[.slice none 0 0, .int .i64 160]) (by simp [results, Try.results48, go_sem]) rfl ?_
          exact unpPost_bad HH.out HBel.out
        | true =>
          obtain ⟨k1, k2, k3⟩ := spanR_ok hs
          have hph : p + hi ≤ q0 := by simp at k3; omega
          obtain ⟨n9, hn9⟩ : ∃ n9, hi - lo = n9 := ⟨_, rfl⟩
          have hsl3 := sl_ft3 (A := some ⟨bl, off, none⟩) (b := b) (cb := cb) (p := p) (lo := lo) (hi := hi) (by omega) k1 hn9 hcb
          have HSB := Lib.hid (sb_ft (t := p + lo) (n := n9) (HRd.out.below HBel.out) (by omega) hcb (by unfold maxLen; omega))
          have hl9 : ((b.drop (p + lo)).take n9).length = n9 := by simp; omega
          have HL9 := Lib.hid hl9
          have hn9b : n9 ≤ b.length := by omega
          rw [if_pos rfl, hn9] at HStep
          generalize (b.drop (p + lo)).take n9 = piece at *
          clear hm hs hl9 hn9 k3
          have hpi : (p : Int) + (hi : Int) ≤ 1099511627776 := by omega
          have hpl : (p : Int) + (lo : Int) ≤ 1099511627776 := by omega
          go_wp2_with (first
            | (go_at_call 70; refine HSp.out.mono ?_; rintro en w1 ⟨rfl, rfl⟩)
            | (at_builtin; have _t := ho7; refine wpList_ap (s := .tmp 40) (x := .tmp 51) (v := u7) (n := acc.length) (xs := vs) (xv := .slice (some ⟨wr.heap.size + 1 + D7.k, 0, none⟩) 1 1) (m := 1) (news := [.slice A7 n9 c7]) listsT rfl rfl rfl (own_below HRow.out (by (repeat (first | exact Below.refl _ _ | refine bg_al ?_ | refine bg_gr ?_ | refine bg_drn ?_ | refine bg_dr ?_ | assumption)))) rfl (Src.block (cs := #[.slice A7 n9 c7]) (t := 22) (fr := (0, 0)) (by (repeat (first | (refine blk_new ?_; first | rfl | (simp only [World.size_alloc, size_gr, World.size_setCell, World.size_drew]; done) | (simp only [World.size_alloc, size_gr, World.size_setCell, World.size_drew]; omega) | omega) | refine blk_dr ?_ | refine blk_drn ?_ | refine blk_al (by simp only [World.size_alloc, size_gr, World.size_setCell, World.size_drew]; omega) ?_ | refine blk_gr (by simp only [World.size_alloc, size_gr, World.size_setCell, World.size_drew]; omega) ?_ | assumption))) rfl) (one_single (u := .slice A7 n9 c7) rfl) (by simp only [maxLen]; omega) (by omega) (by simp only [World.size_alloc, size_gr]; omega) ?_; intro V1 w9 hap9)
            | (at_builtin; refine ap_e w.heap.size piece n9 HL9.out rfl rfl rfl rfl (by (repeat (first | (refine blk_new ?_; first | rfl | (simp only [World.size_alloc, size_gr, World.size_setCell, World.size_drew]; done) | (simp only [World.size_alloc, size_gr, World.size_setCell, World.size_drew]; omega) | omega) | refine blk_dr ?_ | refine blk_drn ?_ | refine blk_al (by simp only [World.size_alloc, size_gr, World.size_setCell, World.size_drew]; omega) ?_ | refine blk_gr (by simp only [World.size_alloc, size_gr, World.size_setCell, World.size_drew]; omega) ?_ | assumption))) (by omega) (by rfl) (HSB.out.below (by (repeat (first | exact Below.refl _ _ | refine bg_al ?_ | refine bg_gr ?_ | refine bg_drn ?_ | refine bg_dr ?_ | assumption)))) (by rw [HL9.out]; omega) ?_; intro D7 A7 c7 ho7 hk7 hc7 hm7))
          have hge := own_ge HRow.out
          have hlt := HRow.out.lt
          simp only [World.size_alloc] at hk7
          have hB9 : Below wr.heap.size wr (((wr.alloc (.cells #[] 5)).gr D7).alloc (.cells #[.slice A7 n9 c7] 22)) := by (repeat (first | exact Below.refl _ _ | refine bg_al ?_ | refine bg_gr ?_ | refine bg_drn ?_ | refine bg_dr ?_ | assumption))
          have hold : ∀ i (h : i < vs.length), OwnB w9 w.heap.size vs[i] (acc[i]'(HVl.out ▸ h)) := fun i h =>
            own_grown (own_below (HOwn.out i h) hB9) hap9.2.1 (fun g hg e => own_type_ne HRow.out (HOwn.out i h) (by decide) g e hg)
          have hnew : OwnB w9 w.heap.size (.slice A7 n9 c7) piece :=
            own_grown (own_below ho7 (by (repeat (first | exact Below.refl _ _ | refine bg_al ?_ | refine bg_gr ?_ | refine bg_drn ?_ | refine bg_dr ?_ | assumption)))) hap9.2.1 (fun g hg e => by
              have := (hlt g e).2
              have := hk7 g hg
              omega)
          refine ⟨⟨p + hi, f', acc ++ [piece], vs ++ [.slice A7 n9 c7], by simp [HVl.out], by go_num, hph, by simpa using hap9.1, snoc_own HVl.out hold hnew, Dist.append HDist.out (fun i j hi hj hij => by simp at hi hj; omega) (fun u hu v hv g h1 h2 => ?_), ap_below (HBel.out.trans (hB9.mono (by omega))) hap9 (by simp only [World.size_alloc, size_gr]; omega) hge, by rw [HLo.out, HStep.out], by omega, by simp; omega, fun l hl => ?_⟩, by simp [intOf]; omega⟩
          · simp only [List.mem_singleton] at hv
            subst hv
            obtain ⟨i, hi', rfl⟩ := List.mem_iff_getElem.1 hu
            have := ((HOwn.out i hi').lt g h1).2
            have := hk7 g h2
            omega
          · rcases List.mem_append.1 hl with hl | hl
            · exact HAl.out l hl
            · simp only [List.mem_singleton] at hl
              subst hl
              have := HL9.out
              omega
      · obtain rfl : p = q0 := by omega
        have h2' : ¬ (p : Int) < (p : Int) := by omega
        have HStep : Hid (looseL b (f' + 1) p p acc = some acc) := by show _ = _; rw [looseL, if_pos (Nat.le_refl _)]
        have HU2 : Hid (refU b = if packR acc = (b, 0) then (acc, 0) else ([], 160)) := by show _ = _; rw [HU.out, HLo.out, HStep.out]
        obtain ⟨AV, cV, rfl, -⟩ := Src.own HRow.out
        have hnl := newLs_of HRow.out HVl.out (Nat.le_refl _) HOwn.out HDist.out
        have HNl := Lib.hid hnl
        have HC2 := Lib.hid (refpack_any (cA := cV) wr hnl.rd (by omega) (fun l hl => by have := HAl.out l hl; omega))
        clear hnl
        go_wp2_with fail
        refine HC2.out.mono ?_
        rintro en w9 ⟨A9, c9, rfl, ho9, hb9⟩
        have HO9 := Lib.hid ho9
        have HB9 := Lib.hid hb9
        have hcv := conv_any (w := w9) cb (HRd.out.below (HBel.out.trans (hb9.mono hws)))
        have hcv2 := convS ho9.sb
        clear ho9 hb9
        obtain ⟨pl, pc, hpk⟩ : ∃ pl pc, packR acc = (pl, pc) := ⟨_, _, rfl⟩
        rw [hpk] at HU2 hcv2 ⊢
        have hpc : pc = 0 ∨ pc = 2 := by
          unfold packR at hpk
          split at hpk <;> (injection hpk with _ h; omega)
        have HPk := Lib.hid hpk
        clear hpk
        have HBf := Lib.hid (HBel.out.trans (HB9.out.mono hws))
        have hsub : ∀ g, w.heap.size ≤ g → g < wr.heap.size → w9.heap[g]? = wr.heap[g]? := fun g _ h => HB9.out.block g h
        have HNl9 : Hid (NewLs w w9 AV cV vs acc) := by
          show NewLs _ _ _ _ _ _
          exact newLs_of (own_below HRow.out HB9.out) HVl.out (Nat.le_refl _) (fun i h => (HOwn.out i h).below HB9.out) HDist.out
        clear hsub
        by_cases hpc0 : pc = 0
        · subst hpc0
          by_cases hpb : pl = b
          · subst hpb
            rw [if_pos rfl] at HU2
            go_wp2_with fail
            refine bodyPost_ret (v := .tuple #[.slice AV acc.length cV, .int .i64 0]) (by simp [results, Try.results48, go_sem]) rfl ?_
            rw [HU2.out]
            exact ⟨AV, cV, vs, rfl, HNl9.out, HBf.out⟩
          · rw [if_neg (fun h => hpb (by injection h))] at HU2
            have hne : (pl == b) = false := beq_eq_false_iff_ne.2 hpb
            clear hpb
            go_wp2_with fail
            refine bodyPost_ret (v := .tuple #[.slice none 0 0, .int .i64 160]) (by simp [results, Try.results48, go_sem]) rfl ?_
            exact unpPost_bad HU2.out HBf.out
        · rw [if_neg (fun h => hpc0 (by injection h))] at HU2
          have hpc2 : (pc == 0) = false := by simp [hpc0]
          clear hpc
          go_wp2_with fail
          refine bodyPost_ret (v := .tuple #[.slice none 0 0, .int .i64 160]) (by simp [results, Try.results48, go_sem]) rfl ?_
          exact unpPost_bad HU2.out HBf.out
end Go.Proofs.Ytdhkhdeblkbojaa
set_option linter.unusedSimpArgs false
namespace Go.Proofs.Ytdhkhdeblkbojaa
open Go.RowKit
attribute [local go_sem ↓] Go.wp_at_zero Go.wp_at_succ
attribute [local go_sem] size_gr cell_gr frozen_gr setCell_gr gr_drew gr_drewN lt_k lt_kc le_k le_kc sub_kc conv_const

theorem num_any (c : Int) (w : World) : Calls Try.prog 43 #[.int .i64 c] w fun e w' => e = .returned (.int .i64 c) ∧ w = w' := by
  go_enter Try.func43, Try.ntmps43
  go_wp2_with fail
  go_ret
  exact ⟨rfl, rfl⟩

set_option maxRecDepth 100000 in
set_option maxHeartbeats 4000000 in
theorem psame_any {A B : Option Addr} {cA cB : Nat} {vs us : List Value} {ls ms : List (List UInt8)} (w : World) (h : SLs w A vs ls) (g : SLs w B us ms) (hl : ls.length ≤ 1099511627776) (gl : ms.length ≤ 1099511627776) :
    Calls Try.prog 49 #[.slice A ls.length cA, .slice B ms.length cB] w fun e w' => e = .returned (.bool (decide (ls = ms))) ∧ Below w.heap.size w w' := by
  have HS := Lib.hid h
  have HG := Lib.hid g
  clear h g
  by_cases hn : ls.length = ms.length
  · have hni : ((ls.length : Int) != (ms.length : Int)) = false := by simp [hn]
    have HN := Lib.hid hn
    have hle : ls.length ≤ ms.length := by omega
    clear hn
    go_enter Try.func49, Try.ntmps49
    go_wp2_with fail
    go_loopw [13] (fun v wr => ∃ i : Nat, i ≤ ls.length ∧ v = .int .i64 i ∧ Below w.heap.size w wr ∧ ls.take i = ms.take i) (fun v _ => ls.length - (intOf v).toNat)
    case atStart => exact ⟨0, by omega, rfl, Below.refl _ _, by simp⟩
    case round =>
      obtain ⟨i, hi, rfl, hbel, htk⟩ := hrel
      have HB := Lib.hid hbel
      have HTk := Lib.hid htk
      clear htk
      by_cases h1 : i < ls.length
      · have h2 : i < ms.length := by omega
        obtain ⟨b, off, A1, c1, rfl, hc, -, hs, hbw⟩ := SLs.at (HS.out.below hbel) h1
        obtain ⟨b', off', A2, c2, rfl, hc', -, hs', hbw'⟩ := SLs.at (HG.out.below hbel) h2
        have h1i : (i : Int) < (ls.length : Int) := by omega
        have h2i : (i : Int) < (ms.length : Int) := by omega
        have hi0 : (0 : Int) ≤ (i : Int) := by omega
        have HS1 := Lib.hid hs
        have HS2 := Lib.hid hs'
        have hsn : Hid (ls[i] = ms[i] → ls.take (i + 1) = ms.take (i + 1)) := by
          show _ → _
          intro he
          rw [← List.take_append_getElem h1, ← List.take_append_getElem h2, HTk.out, he]
        have hd : Hid (ls[i] ≠ ms[i] → decide (ls = ms) = false) := by
          show _ → _
          intro he
          rw [decide_eq_false_iff_not]
          intro h
          subst h
          exact he rfl
        clear hbel hs hs'
        generalize ls[i] = xl at *
        generalize ms[i] = yl at *
        by_cases he : xl = yl
        · have hne : (xl == yl) = true := by simp [he]
          have hsn2 := Lib.hid (hsn.out he)
          clear he
          go_wp2_with fail
          go_region_held3 (fun W => W.cell? ⟨b, off + i, none⟩ = some (.slice A1 xl.length c1) ∧ W.cell? ⟨b', off' + i, none⟩ = some (.slice A2 yl.length c2) ∧ (convert 22 9 (.slice A1 xl.length c1)).run Try.prog W = .ok (.string ⟨xl.toArray⟩) W ∧ (convert 22 9 (.slice A2 yl.length c2)).run Try.prog W = .ok (.string ⟨yl.toArray⟩) W)
            (exact ⟨hc, hc', convS (HS1.out.below (by (repeat (first | exact Below.refl _ _ | refine bg_al ?_ | refine bg_gr ?_ | refine bg_drn ?_ | refine bg_dr ?_ | assumption)))), convS (HS2.out.below (by (repeat (first | exact Below.refl _ _ | refine bg_al ?_ | refine bg_gr ?_ | refine bg_drn ?_ | refine bg_dr ?_ | assumption))))⟩) (fail)
          go_wp2_with fail
          exact ⟨⟨i + 1, by omega, by go_num, HB.out.drew, hsn2.out⟩, by simp [intOf]; omega⟩
        · have hne : (xl == yl) = false := by simp [he]
          have hd2 := Lib.hid (hd.out he)
          clear he
          go_wp2_with fail
          go_region_held3 (fun W => W.cell? ⟨b, off + i, none⟩ = some (.slice A1 xl.length c1) ∧ W.cell? ⟨b', off' + i, none⟩ = some (.slice A2 yl.length c2) ∧ (convert 22 9 (.slice A1 xl.length c1)).run Try.prog W = .ok (.string ⟨xl.toArray⟩) W ∧ (convert 22 9 (.slice A2 yl.length c2)).run Try.prog W = .ok (.string ⟨yl.toArray⟩) W)
            (exact ⟨hc, hc', convS (HS1.out.below (by (repeat (first | exact Below.refl _ _ | refine bg_al ?_ | refine bg_gr ?_ | refine bg_drn ?_ | refine bg_dr ?_ | assumption)))), convS (HS2.out.below (by (repeat (first | exact Below.refl _ _ | refine bg_al ?_ | refine bg_gr ?_ | refine bg_drn ?_ | refine bg_dr ?_ | assumption))))⟩) (fail)
          go_wp2_with fail
          go_ret
          rw [hd2.out]
          exact ⟨rfl, HB.out.drew⟩
      · obtain rfl : i = ls.length := by omega
        have h1i : ¬ (ls.length : Int) < (ls.length : Int) := by omega
        have hd : Hid (decide (ls = ms) = true) := by
          show _ = _
          have h3 := HTk.out
          rw [List.take_length, HN.out, List.take_length] at h3
          rw [decide_eq_true_eq]
          exact h3
        clear hbel
        go_wp2_with fail
        go_ret
        rw [hd.out]
        exact ⟨rfl, HB.out⟩
  · have hni : ((ls.length : Int) != (ms.length : Int)) = true := by simp; omega
    have hd : Hid (decide (ls = ms) = false) := by
      show _ = _
      rw [decide_eq_false_iff_not]
      intro h
      subst h
      exact hn rfl
    clear hn
    go_enter Try.func49, Try.ntmps49
    go_wp2_with fail
    go_ret
    rw [hd.out]
    exact ⟨rfl, Below.refl _ _⟩

def marksB : List UInt8 := [85, 170, 85, 170]
theorem ownB_caps {w : World} {base : Nat} {A : Option Addr} {n c : Nat} {l : List UInt8} (h : OwnB w base (.slice A n c) l) : n ≤ c ∧ c ≤ 9223372036854775807 := by
  obtain ⟨A', c', e, _, h1, h2, _⟩ := h.form
  injection e with e1 e2 e3
  unfold maxLen at h2
  omega
theorem sb_pre {w : World} {A : Option Addr} {n k c : Nat} {l : List UInt8} (h : SB w (.slice A n c) l) (hk : k ≤ n) : SB w (.slice A k c) (l.take k) := by
  obtain ⟨A', c', e, hr, h1, h2, h3⟩ := h
  injection e with e1 e2 e3
  subst e1 e2 e3
  have ht : (l.take k).length = k := by simp; omega
  exact ⟨_, _, by rw [ht], hr.take k, by rw [ht]; omega, h2, h3⟩

set_option maxRecDepth 100000 in
set_option maxHeartbeats 4000000 in
theorem roomy3_any (vb : Value) (b : List UInt8) (w : World) (hb : SB w vb b) (hl : b.length ≤ 1099511627776) :
    Calls Try.prog 46 #[vb] w fun e w' => ∃ A c, e = .returned (.slice A b.length c) ∧ OwnB w' w.heap.size (.slice A (b.length + 4) c) (b ++ marksB) ∧ Below w.heap.size w w' := by
  have HB := Lib.hid hb
  obtain ⟨A, cb, rfl, -⟩ := hb
  go_enter Try.func46, Try.ntmps46
  go_wp2_with (at_builtin; first
    | (have _t := ho7; refine ap_any (W0 := w) (base := w.heap.size) b marksB (b ++ marksB) (b.length + 4) rfl (by simp [marksB]) rfl rfl rfl (by rfl) (OwnB.below ho7 (by (repeat (first | exact Below.refl _ _ | refine bg_al ?_ | refine bg_gr ?_ | refine bg_drn ?_ | refine bg_dr ?_ | assumption)))) (by rfl) (sb_lit (by simp only [World.size_alloc, size_gr, World.size_setCell, World.size_drew]) rfl rfl (by decide)) (by simp [marksB]; omega) (Nat.le_refl _) (by (repeat (first | exact Below.refl _ _ | refine bg_al ?_ | refine bg_gr ?_ | refine bg_drn ?_ | refine bg_dr ?_ | assumption))) (by simp only [World.size_alloc, size_gr]; omega) ?_; intro w8 A8 c8 ho8 hb8 hc8; have hcc := (ownB_caps ho8).1; have hcm := (ownB_caps ho8).2)
    | (refine ap_e w.heap.size b b.length rfl rfl rfl rfl rfl (by (repeat (first | (refine blk_new ?_; first | rfl | (simp only [World.size_alloc, size_gr, World.size_setCell, World.size_drew]; done) | (simp only [World.size_alloc, size_gr, World.size_setCell, World.size_drew]; omega) | omega) | refine blk_dr ?_ | refine blk_drn ?_ | refine blk_al (by simp only [World.size_alloc, size_gr, World.size_setCell, World.size_drew]; omega) ?_ | refine blk_gr (by simp only [World.size_alloc, size_gr, World.size_setCell, World.size_drew]; omega) ?_ | assumption))) (Nat.le_refl _) (by rfl) (HB.out.below (by (repeat (first | exact Below.refl _ _ | refine bg_al ?_ | refine bg_gr ?_ | refine bg_drn ?_ | refine bg_dr ?_ | assumption)))) (by omega) ?_; intro D7 A7 c7 ho7 hk7 hc7 hm7; clear hk7))
  go_ret
  exact ⟨_, _, rfl, ho8, hb8⟩

theorem cat_bytes (a b : List UInt8) : (⟨a.toArray⟩ : ByteArray) ++ ⟨b.toArray⟩ = ⟨(a ++ b).toArray⟩ := by
  apply ByteArray.ext
  simp
set_option maxRecDepth 100000 in
set_option maxHeartbeats 4000000 in
theorem aswas_any {A : Option Addr} {c : Nat} (vb : Value) (b : List UInt8) (w : World) (ha : SB w (.slice A (b.length + 4) c) (b ++ marksB)) (hb : SB w vb b) (hl : b.length ≤ 1099511627776) :
    Calls Try.prog 44 #[.slice A b.length c, vb] w fun e w' => e = .returned (.bool true) ∧ Below w.heap.size w w' := by
  have HA := Lib.hid ha
  have HB := Lib.hid hb
  obtain ⟨B, cb, rfl, -⟩ := hb
  have hcap : b.length + 4 ≤ c ∧ c ≤ 9223372036854775807 := by
    obtain ⟨A', c', e, _, h1, h2, _⟩ := ha
    injection e with e1 e2 e3
    unfold maxLen at h2
    omega
  obtain ⟨h1, h2⟩ := hcap
  have h1' : (b.length : Int) + 4 ≤ (c : Int) := by omega
  have h0' : (0 : Int) ≤ (b.length : Int) + 4 := by omega
  have hw : IntKind.i64.wrap ((b.length : Int) + 4) = (b.length : Int) + 4 := IntWalk.i64_in _ (by omega)
  have ht : ((b.length : Int) + 4).toNat = b.length + 4 := by omega
  have hq : ¬ 9223372036854775807 < b.length + 4 := by omega
  have hcat : (⟨b.toArray⟩ : ByteArray) ++ ⟨#[85, 170, 85, 170]⟩ = ⟨(b ++ marksB).toArray⟩ := cat_bytes b marksB
  clear ha
  go_enter Try.func44, Try.ntmps44
  go_wp2_with fail
  go_region_held3 (fun W => (convert 22 9 (.slice A (b.length + 4) c)).run Try.prog W = .ok (.string ⟨(b ++ marksB).toArray⟩) W ∧ (convert 22 9 (.slice B b.length cb)).run Try.prog W = .ok (.string ⟨b.toArray⟩) W)
    (exact ⟨convS (HA.out.below (by (repeat (first | exact Below.refl _ _ | refine bg_al ?_ | refine bg_gr ?_ | refine bg_drn ?_ | refine bg_dr ?_ | assumption)))), convS (HB.out.below (by (repeat (first | exact Below.refl _ _ | refine bg_al ?_ | refine bg_gr ?_ | refine bg_drn ?_ | refine bg_dr ?_ | assumption))))⟩) (fail)
  go_wp2_with fail
  go_ret
  exact ⟨rfl, (Below.refl _ _).drew⟩

/-- a slice at whose own row the bytes b stand, and the four marks behind them -/
def RoomS (w : World) (base : Nat) (v : Value) (b : List UInt8) : Prop := ∃ A c, v = .slice A b.length c ∧ OwnB w base (.slice A (b.length + 4) c) (b ++ marksB)
theorem RoomS.below {w w' : World} {base : Nat} {v : Value} {b : List UInt8} (h : RoomS w base v b) (hb : Below w.heap.size w w') : RoomS w' base v b := by
  obtain ⟨A, c, rfl, ho⟩ := h
  exact ⟨A, c, rfl, ho.below hb⟩
theorem RoomS.sb {w : World} {base : Nat} {v : Value} {b : List UInt8} (h : RoomS w base v b) : SB w v b := by
  obtain ⟨A, c, rfl, ho⟩ := h
  have := sb_pre (k := b.length) ho.sb (by omega)
  rwa [List.take_left] at this
theorem RoomS.grown {w w' : World} {base : Nat} {v : Value} {b : List UInt8} {row : Option Nat} (h : RoomS w base v b) (hg : w.grownBy w' row) (hne : ∀ g, v.ownBlock = some g → row ≠ some g) : RoomS w' base v b := by
  obtain ⟨A, c, rfl, ho⟩ := h
  exact ⟨A, c, rfl, own_grown ho hg (fun k hk => hne k (by rw [← hk]; cases A <;> rfl))⟩
theorem RoomS.typed {w : World} {base N n : Nat} {v u : Value} {b : List UInt8} {xs : List Value} (h : RoomS w base v b) (hrow : w.ownsRow N 22 1 u n xs) : ∀ g, v.ownBlock = some g → u.ownBlock ≠ some g := by
  obtain ⟨A, c, rfl, ho⟩ := h
  intro g hg
  exact own_type_ne ho hrow (by decide) g (by rw [← hg]; cases A <;> rfl)
theorem snoc_room {w : World} {base : Nat} {vs : List Value} {ls : List (List UInt8)} {v : Value} (hold : ∀ i (h : i < vs.length) (h' : i < ls.length), RoomS w base vs[i] ls[i]) (hnew : ∀ (h : vs.length < ls.length), RoomS w base v ls[vs.length]) :
    ∀ i (h : i < (vs ++ [v]).length) (h' : i < ls.length), RoomS w base (vs ++ [v])[i] ls[i] := fun i h h' => by
  by_cases hiv : i < vs.length
  · simp only [List.getElem_append_left hiv]
    exact hold i hiv h'
  · have hie : i = vs.length := by simp at h; omega
    rw [last_get vs v i h hie]
    subst hie
    exact hnew h'

theorem sb_block {W : World} {g n : Nat} {cs : Array Value} {l : List UInt8} {e : TypeId} {fr : Nat × Nat} (h : W.heap[g]? = some (.cells cs e fr)) (hcs : cs.toList = l.map bv) (hn : l.length = n) (hm : n ≤ 1099511627776) : SB W (.slice (some ⟨g, 0, none⟩) n n) l := by
  subst hn
  refine ⟨_, _, rfl, fun k hk => ⟨_, 0, rfl, ?_⟩, Nat.le_refl _, by unfold maxLen; omega, fun e => by cases e⟩
  rw [cell_of_row _ g (0 + k) _ _ _ h, Nat.zero_add, ← Array.getElem?_toList, hcs, List.getElem?_map, List.getElem?_eq_getElem hk]
  rfl
/-- the rows that roomy makes: the strings, the mark behind them -/
structure RoomyPost (w w' : World) (A : Option Addr) (c : Nat) (vs : List Value) (vm : Value) (ls : List (List UInt8)) : Prop where
  len : vs.length = ls.length
  row : w'.ownsRow w.heap.size 22 1 (.slice A (ls.length + 1) c) (ls.length + 1) (vs ++ [vm])
  room : ∀ i (h : i < vs.length), RoomS w' w.heap.size vs[i] (ls[i]'(len ▸ h))
  mark : ∃ A c, vm = .slice A 4 c ∧ SB w' vm [109, 97, 114, 107]
  bel : Below w.heap.size w w'

def RoomyP (w : World) (ls : List (List UInt8)) (e : Ending) (w' : World) : Prop :=
  ∃ A' c' us um, e = .returned (.slice A' ls.length c') ∧ RoomyPost w w' A' c' us um ls

set_option maxRecDepth 100000 in
set_option maxHeartbeats 4000000 in
theorem roomy15_any {A : Option Addr} {cA : Nat} {vs : List Value} {ls : List (List UInt8)} (w : World) (h : SLs w A vs ls) (hn : ls.length ≤ 1099511627776) (hl : ∀ l ∈ ls, l.length ≤ 1099511627776) :
    Calls Try.prog 40 #[.slice A ls.length cA] w (RoomyP w ls) := by
  have HS := Lib.hid h
  have HL := Lib.hid (fun i (hi : i < ls.length) => hl ls[i] (List.getElem_mem hi))
  clear h hl
  go_enter Try.func40, Try.ntmps40
  go_wp2_with fail
  go_loopw [3, 8] (fun V v wr => ∃ us : List Value, us.length ≤ ls.length ∧ v = .int .i64 us.length ∧ wr.ownsRow w.heap.size 22 1 V us.length us ∧ (∀ i (h : i < us.length) (h' : i < ls.length), RoomS wr w.heap.size us[i] ls[i]) ∧ Below w.heap.size w wr) (fun _ v _ => ls.length - (intOf v).toNat)
  case atStart => exact ⟨[], by simp, rfl, own_nil _ _ _ _, fun i h => (by simp at h), Below.refl _ _⟩
  case round =>
    obtain ⟨us, hi, rfl, hrow, hroom, hbel⟩ := hrel
    have HRow := Lib.hid hrow
    have HRoom := Lib.hid hroom
    have HBel := Lib.hid hbel
    have hws := hbel.size
    by_cases hi1 : us.length < ls.length
    · obtain ⟨b, off, A1, c1, rfl, hc, hv, hs, hbw⟩ := SLs.at (HS.out.below hbel) hi1
      have hll := HL.out us.length hi1
      have h1i : (us.length : Int) < (ls.length : Int) := by omega
      have hi0 : (0 : Int) ≤ (us.length : Int) := by omega
      have HC := Lib.hid (roomy3_any _ _ wr hs hll)
      clear hv hs hrow hroom hbel
      obtain ⟨b1, hb1⟩ : ∃ b1, ls[us.length] = b1 := ⟨_, rfl⟩
      rw [hb1] at HC hc hll
      have HB1 := Lib.hid hb1
      clear hb1
      go_wp2_with (first
        | (go_at_call 46; refine HC.out.mono ?_; rintro en w1 ⟨A2, c2, rfl, ho, hb2⟩)
        | (at_builtin; refine wpList_ap (s := .tmp 12) (x := .tmp 15) (v := u3) (n := us.length) (xs := us) (xv := .slice (some ⟨w1.heap.size, 0, none⟩) 1 1) (m := 1) (news := [.slice A2 b1.length c2]) listsT rfl rfl rfl (own_below HRow.out (hb2.alloc hb2.size _)) rfl (Src.block (cs := #[.slice A2 b1.length c2]) (t := 22) (fr := (0, 0)) (by (repeat (first | (refine blk_new ?_; first | rfl | (simp only [World.size_alloc, size_gr, World.size_setCell, World.size_drew]; done) | (simp only [World.size_alloc, size_gr, World.size_setCell, World.size_drew]; omega) | omega) | refine blk_dr ?_ | refine blk_drn ?_ | refine blk_al (by simp only [World.size_alloc, size_gr, World.size_setCell, World.size_drew]; omega) ?_ | refine blk_gr (by simp only [World.size_alloc, size_gr, World.size_setCell, World.size_drew]; omega) ?_ | assumption))) rfl) (one_single (u := .slice A2 b1.length c2) rfl) (by simp only [maxLen]; omega) (by omega) (by have := hb2.size; simp only [World.size_alloc]; omega) ?_; intro V1 w9 hap))
      have hb2s := hb2.size
      have hal : Below w1.heap.size w1 (w1.alloc (.cells #[.slice A2 b1.length c2] 22)) := by (repeat (first | exact Below.refl _ _ | refine bg_al ?_ | refine bg_gr ?_ | refine bg_drn ?_ | refine bg_dr ?_ | assumption))
      have hrow1 := own_below HRow.out (hb2.alloc hb2.size (.cells #[.slice A2 b1.length c2] 22))
      have hge := own_ge HRow.out
      have hnew : RoomS w9 w.heap.size (.slice A2 b1.length c2) b1 := RoomS.grown (RoomS.below ⟨A2, c2, rfl, ho.mono (by omega)⟩ hal) hap.2.1 (RoomS.typed (RoomS.below (base := w.heap.size) ⟨A2, c2, rfl, ho.mono (by omega)⟩ hal) hrow1)
      have hold : ∀ i (h : i < us.length) (h' : i < ls.length), RoomS w9 w.heap.size us[i] ls[i] := fun i h h' =>
        RoomS.grown ((HRoom.out i h h').below (hb2.trans (hal.mono hb2s))) hap.2.1 (RoomS.typed ((HRoom.out i h h').below (hb2.trans (hal.mono hb2s))) hrow1)
      have hsn := snoc_room hold (v := .slice A2 b1.length c2) (fun h => by rw [HB1.out]; exact hnew)
      exact ⟨⟨us ++ [.slice A2 b1.length c2], by simp only [List.length_append, List.length_cons, List.length_nil]; omega, by simp only [List.length_append, List.length_cons, List.length_nil]; go_num, by simpa using hap.1, hsn, ap_below ((HBel.out.trans (hb2.mono hws)).trans (hal.mono (by omega))) hap (by simp only [World.size_alloc]; omega) hge⟩, by simp [intOf]; omega⟩
    · have hil : us.length = ls.length := by omega
      have h1i : ¬ (us.length : Int) < (ls.length : Int) := by omega
      have HIL := Lib.hid hil
      obtain ⟨AV, cV, rfl, -⟩ := Src.own hrow
      have hcap := (row_caps hrow).2.1
      unfold maxLen at hcap
      have hge := own_ge hrow
      have HGe := Lib.hid hge
      clear hil hrow hroom hbel hge
      go_wp2_with (at_builtin; refine wpList_ap (s := .tmp 18) (x := .tmp 21) (v := .slice AV us.length cV) (n := us.length) (xs := us) (xv := .slice (some ⟨wr.heap.size + 1, 0, none⟩) 1 1) (m := 1) (news := [.slice (some ⟨wr.heap.size, 0, none⟩) 4 4]) listsT rfl rfl rfl (own_below HRow.out (by (repeat (first | exact Below.refl _ _ | refine bg_al ?_ | refine bg_gr ?_ | refine bg_drn ?_ | refine bg_dr ?_ | assumption)))) rfl (Src.block (cs := #[.slice (some ⟨wr.heap.size, 0, none⟩) 4 4]) (t := 22) (fr := (0, 0)) (by (repeat (first | (refine blk_new ?_; first | rfl | (simp only [World.size_alloc, size_gr, World.size_setCell, World.size_drew]; done) | (simp only [World.size_alloc, size_gr, World.size_setCell, World.size_drew]; omega) | omega) | refine blk_dr ?_ | refine blk_drn ?_ | refine blk_al (by simp only [World.size_alloc, size_gr, World.size_setCell, World.size_drew]; omega) ?_ | refine blk_gr (by simp only [World.size_alloc, size_gr, World.size_setCell, World.size_drew]; omega) ?_ | assumption))) rfl) (one_single (u := .slice (some ⟨wr.heap.size, 0, none⟩) 4 4) rfl) (by simp only [maxLen]; omega) (by omega) (by simp only [World.size_alloc]; omega) ?_; intro V1 w9 hap; obtain ⟨g9, c9, rfl, hc9, hm9, hb9, hlt9⟩ := own_form hap.1 (by omega); have hle : (ls.length : Int) ≤ (c9 : Int) := by (have := HIL.out; omega))
      go_ret
      have hmk : (((wr.alloc (.cells #[.int .u8 109, .int .u8 97, .int .u8 114, .int .u8 107] 5 (4, 5))).alloc (.cells #[.slice (some ⟨wr.heap.size, 0, none⟩) 4 4] 22))).heap[wr.heap.size]? = some (.cells #[.int .u8 109, .int .u8 97, .int .u8 114, .int .u8 107] 5 (4, 5)) := by (repeat (first | (refine blk_new ?_; first | rfl | (simp only [World.size_alloc, size_gr, World.size_setCell, World.size_drew]; done) | (simp only [World.size_alloc, size_gr, World.size_setCell, World.size_drew]; omega) | omega) | refine blk_dr ?_ | refine blk_drn ?_ | refine blk_al (by simp only [World.size_alloc, size_gr, World.size_setCell, World.size_drew]; omega) ?_ | refine blk_gr (by simp only [World.size_alloc, size_gr, World.size_setCell, World.size_drew]; omega) ?_ | assumption))
      have hal : Below wr.heap.size wr ((wr.alloc (.cells #[.int .u8 109, .int .u8 97, .int .u8 114, .int .u8 107] 5 (4, 5))).alloc (.cells #[.slice (some ⟨wr.heap.size, 0, none⟩) 4 4] 22)) := by (repeat (first | exact Below.refl _ _ | refine bg_al ?_ | refine bg_gr ?_ | refine bg_drn ?_ | refine bg_dr ?_ | assumption))
      have hlt := HRow.out.lt
      have hmk9 := (hap.2.1.block wr.heap.size (by simp only [World.size_alloc]; omega) (fun e => by have := (hlt _ e.symm).2; omega)).trans hmk
      refine ⟨_, _, us, .slice (some ⟨wr.heap.size, 0, none⟩) 4 4, rfl, ⟨HIL.out, by rw [← HIL.out]; exact hap.1, fun i h => ?_, ⟨_, _, rfl, sb_block (l := [109, 97, 114, 107]) hmk9 rfl rfl (by decide)⟩, ap_below (HBel.out.trans (hal.mono hws)) hap (by simp only [World.size_alloc]; omega) HGe.out⟩⟩
      exact RoomS.grown ((HRoom.out i h (by have := HIL.out; omega)).below hal) hap.2.1 (RoomS.typed ((HRoom.out i h (by have := HIL.out; omega)).below hal) (own_below HRow.out hal))
end Go.Proofs.Ytdhkhdeblkbojaa
set_option linter.unusedSimpArgs false
namespace Go.Proofs.Ytdhkhdeblkbojaa
open Go.RowKit
attribute [local go_sem ↓] Go.wp_at_zero Go.wp_at_succ
attribute [local go_sem] size_gr cell_gr frozen_gr setCell_gr gr_drew gr_drewN lt_k lt_kc le_k le_kc sub_kc

theorem sls_one {w : World} {g : Nat} {v : Value} {l : List UInt8} (h : w.heap[g]? = some (.cells #[v] 22)) (hs : SB w v l) : SLs w (some ⟨g, 0, none⟩) [v] [l] :=
  ⟨rfl, fun k hk => ⟨g, 0, rfl, by
    have : k = 0 := by simp at hk; omega
    subst this
    rw [cell_of_row w g 0 _ _ _ h]
    rfl⟩, fun i hi => by
    have : i = 0 := by simp at hi; omega
    subst this
    exact hs⟩
theorem known_pack : packR [[194, 32, 1]] = ([196, 131, 194, 32, 1], 0) := by
  simp [packR, listB, bodyB, strB_eq, headB, okS, totL]
theorem known_unp : unpR [196, 131, 194, 32, 1] = ([[194, 32, 1]], 0) := (unp_ok known_pack).1

set_option maxRecDepth 100000 in
set_option maxHeartbeats 4000000 in
theorem known_any (w : World) : Calls Try.prog 45 #[] w fun e w' => e = .returned (.bool true) ∧ Below w.heap.size w w' := by
  have HP : Hid (∀ W A cA, SLs W A [.slice (some ⟨w.heap.size, 0, none⟩) 3 3] [[194, 32, 1]] → Calls Try.prog 41 #[.slice A 1 cA] W (PackPost W [[194, 32, 1]])) := by
    show ∀ W A cA, _
    exact fun W A cA h => pack_proof W h (by decide) (fun l hl => by simp at hl; subst hl; decide)
  have HU : Hid (∀ W v, SB W v [196, 131, 194, 32, 1] → Calls Try.prog 47 #[v] W (UnpPost W ([[194, 32, 1]], 0))) := by
    show ∀ W v, _
    intro W v h
    have := unpack_proof v _ W h (by decide)
    rwa [known_unp] at this
  go_enter Try.func45, Try.ntmps45
  go_wp2_with fail
  refine (HP.out _ _ _ (sls_one (by (repeat (first | (refine blk_new ?_; first | rfl | (simp only [World.size_alloc, size_gr, World.size_setCell, World.size_drew]; done) | (simp only [World.size_alloc, size_gr, World.size_setCell, World.size_drew]; omega) | omega) | refine blk_dr ?_ | refine blk_drn ?_ | refine blk_al (by simp only [World.size_alloc, size_gr, World.size_setCell, World.size_drew]; omega) ?_ | refine blk_gr (by simp only [World.size_alloc, size_gr, World.size_setCell, World.size_drew]; omega) ?_ | assumption))) (sb_block (by (repeat (first | (refine blk_new ?_; first | rfl | (simp only [World.size_alloc, size_gr, World.size_setCell, World.size_drew]; done) | (simp only [World.size_alloc, size_gr, World.size_setCell, World.size_drew]; omega) | omega) | refine blk_dr ?_ | refine blk_drn ?_ | refine blk_al (by simp only [World.size_alloc, size_gr, World.size_setCell, World.size_drew]; omega) ?_ | refine blk_gr (by simp only [World.size_alloc, size_gr, World.size_setCell, World.size_drew]; omega) ?_ | assumption))) rfl rfl (by decide)))).mono ?_
  rintro en w1 ⟨A1, c1, rfl, ho, hb⟩
  rw [known_pack] at ho ⊢
  obtain ⟨D1, rfl⟩ := gr_of_below hb; clear hb
  have HO := Lib.hid (ownG ho)
  clear ho
  go_wp2_with fail
  refine (HU.out _ _ (sb_lit (by simp only [World.size_alloc, size_gr, World.size_setCell, World.size_drew]) rfl rfl (by decide))).mono ?_
  rintro en w1 ⟨A2, c2, vs, rfl, hnl, hb⟩
  obtain ⟨D2, rfl⟩ := gr_of_below hb; clear hb
  have HNl := Lib.hid hnl
  clear hnl
  go_upto_region 3 with (fail)
  refine with_world (fun W0 hW0 => ?_)
  have hs1 := (HO.out.own W0 (by rw [hW0]; (repeat (first | (refine at_base ?_; simp only [World.size_alloc, size_gr, World.size_setCell, World.size_drew]; done) | (refine at_base ?_; rfl) | refine at_al ?_ | refine at_gr ?_ | refine at_drn ?_ | refine at_dr ?_ | assumption)))).sb
  have hcv : (convert 22 9 (.slice A1 5 c1)).run Try.prog W0 = .ok (.string ⟨#[196, 131, 194, 32, 1]⟩) W0 := convS hs1
  have HW0 := Lib.hid hW0
  have HNl0 : Hid (SLs W0 A2 vs [[194, 32, 1]]) := by
    show SLs _ _ _ _
    rw [hW0]
    exact HNl.out.rd
  clear hW0 hs1
  have HSm : Hid (∀ (W : World) (g1 g0 : Nat), Below W0.heap.size W0 W → W.heap[g1]? = some (.cells #[.slice (some ⟨g0, 0, none⟩) 3 3] 22) → W.heap[g0]? = some (.cells #[.int .u8 194, .int .u8 32, .int .u8 1] 5) →
      Calls Try.prog 49 #[.slice A2 1 c2, .slice (some ⟨g1, 0, none⟩) 1 1] W fun e w' => e = .returned (.bool true) ∧ Below W.heap.size W w') := by
    show ∀ W g1 g0, _
    intro W g1 g0 hb h1 h0
    have := psame_any (cA := c2) (cB := 1) W (HNl0.out.below hb) (sls_one (l := [194, 32, 1]) h1 (sb_block h0 rfl rfl (by decide))) (by decide) (by decide)
    exact this
  go_wp2_with (first
    | (go_at_call 43; refine (num_any _ _).mono ?_; rintro en w2 ⟨rfl, rfl⟩)
    | (go_at_call 49; refine (HSm.out _ _ _ (by (repeat (first | exact Below.refl _ _ | refine bg_al ?_ | refine bg_gr ?_ | refine bg_drn ?_ | refine bg_dr ?_ | assumption))) (by (repeat (first | (refine blk_new ?_; first | rfl | (simp only [World.size_alloc, size_gr, World.size_setCell, World.size_drew]; done) | (simp only [World.size_alloc, size_gr, World.size_setCell, World.size_drew]; omega) | omega) | refine blk_dr ?_ | refine blk_drn ?_ | refine blk_al (by simp only [World.size_alloc, size_gr, World.size_setCell, World.size_drew]; omega) ?_ | refine blk_gr (by simp only [World.size_alloc, size_gr, World.size_setCell, World.size_drew]; omega) ?_ | assumption))) (by (repeat (first | (refine blk_new ?_; first | rfl | (simp only [World.size_alloc, size_gr, World.size_setCell, World.size_drew]; done) | (simp only [World.size_alloc, size_gr, World.size_setCell, World.size_drew]; omega) | omega) | refine blk_dr ?_ | refine blk_drn ?_ | refine blk_al (by simp only [World.size_alloc, size_gr, World.size_setCell, World.size_drew]; omega) ?_ | refine blk_gr (by simp only [World.size_alloc, size_gr, World.size_setCell, World.size_drew]; omega) ?_ | assumption)))).mono ?_; rintro en w2 ⟨rfl, hb2⟩))
  go_ret
  have hB0 : Below w.heap.size w W0 := by rw [HW0.out]; (repeat (first | exact Below.refl _ _ | refine bg_al ?_ | refine bg_gr ?_ | refine bg_drn ?_ | refine bg_dr ?_ | assumption))
  exact ⟨rfl, hB0.trans (((by (repeat (first | exact Below.refl _ _ | refine bg_al ?_ | refine bg_gr ?_ | refine bg_drn ?_ | refine bg_dr ?_ | assumption)) : Below W0.heap.size W0 ((W0.alloc (.cells #[.int .u8 194, .int .u8 32, .int .u8 1] 5)).alloc (.cells #[.slice (some ⟨W0.heap.size, 0, none⟩) 3 3] 22))).trans (hb2.mono (by simp only [World.size_alloc]; omega))).mono hB0.size)⟩
end Go.Proofs.Ytdhkhdeblkbojaa
set_option linter.unusedSimpArgs false
namespace Go.Proofs.Ytdhkhdeblkbojaa
open Go.RowKit
attribute [local go_sem ↓] Go.wp_at_zero Go.wp_at_succ
attribute [local go_sem] size_gr cell_gr frozen_gr setCell_gr gr_drew gr_drewN lt_k lt_kc le_k le_kc sub_kc

theorem SB.one {w : World} {v : Value} {l : List UInt8} (h : SB w v l) : v.oneCell' = true := by
  obtain ⟨A, c, rfl, -⟩ := h
  rfl
theorem SLs.one {w : World} {A : Option Addr} {vs : List Value} {ls : List (List UInt8)} (h : SLs w A vs ls) : ∀ u ∈ vs, u.oneCell' = true := fun u hu => by
  obtain ⟨i, hi, rfl⟩ := List.mem_iff_getElem.1 hu
  exact (h.sb i hi).one
theorem SLs.src {w : World} {A : Option Addr} {vs : List Value} {ls : List (List UInt8)} (h : SLs w A vs ls) (c : Nat) : Src w 1 (.slice A ls.length c) ls.length vs := by
  refine ⟨A, c, rfl, by rw [h.len]; simp, fun j u hj => ?_⟩
  obtain ⟨hjl, rfl⟩ := List.getElem?_eq_some_iff.1 hj
  obtain ⟨b, off, rfl, hc⟩ := h.rd j hjl
  exact ⟨_, rfl, by rw [addr_add]; exact hc⟩
theorem sls_row {w : World} {base n : Nat} {A : Option Addr} {c : Nat} {us : List Value} {ms : List (List UInt8)} (hrow : w.ownsRow base 22 1 (.slice A n c) n us) (hl : us.length = ms.length) (hs : ∀ i (h : i < us.length) (h' : i < ms.length), SB w us[i] ms[i]) : SLs w A us ms := by
  obtain ⟨A', c', e, hr, -⟩ := RdV.own hrow
  injection e with e1 e2 e3
  subst e1
  exact ⟨hl, hr, fun i hi => hs i hi (hl ▸ hi)⟩
theorem packR_len (ms : List (List UInt8)) : (packR ms).1.length ≤ 131072 := by
  unfold packR
  split
  · rename_i h
    exact h.2.2
  · simp

def allPost (w wr : World) (V : Value) (k : Nat) : Prop := ∃ (us : List Value) (ms : List (List UInt8)), wr.ownsRow w.heap.size 22 1 V ms.length us ∧ us.length = ms.length ∧ (∀ i (h : i < us.length) (h' : i < ms.length), SB w us[i] ms[i]) ∧ ms.length ≤ k * 1048576 ∧ (∀ l ∈ ms, l.length ≤ 1048576) ∧ Below w.heap.size w wr

set_option maxRecDepth 100000 in
set_option maxHeartbeats 8000000 in
theorem packs_walk {A : Option Addr} {cA : Nat} {vs : List Value} {ls : List (List UInt8)} (times : Int) (w : World) (h : SLs w A vs ls) (hn : ls.length ≤ 1048576) (hl : ∀ l ∈ ls, l.length ≤ 1048576) :
    Calls Try.prog 11 #[.slice A ls.length cA, .int .i64 times] w fun e w' => e = .returned (.bool true) ∧ Below w.heap.size w w' := by
  have HS := Lib.hid h
  have HL := Lib.hid hl
  clear h hl
  go_enter Try.func11, Try.ntmps11
  go_wp2_with fail
  go_loopw [5, 6] (fun V v wr => ∃ k : Nat, k ≤ 200 ∧ v = .int .i64 k ∧ allPost w wr V k) (fun _ v _ => 201 - (intOf v).toNat)
  case atStart => exact ⟨0, by omega, rfl, [], [], own_nil _ _ _ _, rfl, fun i h => (by simp at h), by simp, fun l h => (by simp at h), Below.refl _ _⟩
  case round =>
    obtain ⟨k, hk, rfl, us, ms, hrow, hul, hsb, hml, hll, hbel⟩ := hrel
    have HRow := Lib.hid hrow
    have HUl := Lib.hid hul
    have HSb := Lib.hid hsb
    have HLl := Lib.hid hll
    have HBel := Lib.hid hbel
    have hws := hbel.size
    clear hrow hul hsb hll hbel
    by_cases hgo : k < 1 ∨ ((k : Int) < times ∧ k < 200)
    · have hk200 : k < 200 := by omega
      have hgo' : Hid ((k : Int) < 1 ∨ (¬ (k : Int) < 1 ∧ (k : Int) < times ∧ (k : Int) < 200)) := by show _ ∨ _; omega
      clear hgo
      have hsrc := (HS.out.below HBel.out).src cA
      have HSrc := Lib.hid hsrc
      clear hsrc
      rcases hgo'.out with c1 | ⟨c1, c2, c3⟩
      all_goals
        go_wp2_with (at_builtin; refine wpList_ap (s := .tmp 26) (x := .tmp 27) (v := u5) (n := ms.length) (xs := us) (xv := .slice A ls.length cA) (m := ls.length) (news := vs) listsT rfl rfl rfl HRow.out rfl HSrc.out HS.out.one (by simp only [maxLen]; omega) (by omega) (by omega) ?_; intro V1 w9 hap)
        refine ⟨⟨k + 1, by omega, by go_num, us ++ vs, ms ++ ls, by simpa using hap.1, by rw [List.length_append, List.length_append, HUl.out, HS.out.len], fun i h h' => ?_, by rw [List.length_append]; omega, fun l hl => ?_, ap_below HBel.out hap (by omega) (own_ge HRow.out)⟩, by simp [intOf]; omega⟩
        · by_cases hiu : i < us.length
          · simp only [List.getElem_append_left hiu, List.getElem_append_left (show i < ms.length by rw [← HUl.out]; exact hiu)]
            exact HSb.out i hiu (HUl.out ▸ hiu)
          · have e1 := HUl.out
            have hiv : i - us.length < vs.length := by simp only [List.length_append] at h; omega
            have e3 : (us ++ vs)[i] = vs[i - us.length] := List.getElem_append_right (by omega)
            have e4 : (ms ++ ls)[i] = ls[i - ms.length]'(by simp only [List.length_append] at h'; omega) := List.getElem_append_right (by omega)
            rw [e3, e4]
            have := HS.out.sb (i - us.length) hiv
            simpa only [e1] using this
        · rcases List.mem_append.1 hl with hl | hl
          · exact HLl.out l hl
          · exact HL.out l hl
    · have hgo' : Hid (¬ (k : Int) < 1 ∧ (¬ (k : Int) < times ∨ ((k : Int) < times ∧ ¬ (k : Int) < 200))) := by show _ ∧ _; omega
      have hm40 : ms.length ≤ 1099511627776 := by
        have : k * 1048576 ≤ 200 * 1048576 := Nat.mul_le_mul_right _ hk
        omega
      clear hgo
      obtain ⟨AV, cV, rfl, -⟩ := Src.own HRow.out
      have hsl : SLs wr AV us ms := sls_row HRow.out HUl.out (fun i h h' => (HSb.out i h h').below HBel.out)
      have HSl := Lib.hid hsl
      have HSlw := Lib.hid (fun i (h : i < us.length) (h' : i < ms.length) => HSb.out i h h')
      have HC := Lib.hid (roomy15_any (cA := cV) wr hsl hm40 (fun l hl => by have := HLl.out l hl; omega))
      clear hsl
      obtain ⟨c1, hc2⟩ := hgo'.out
      rcases hc2 with c2 | ⟨c2, c3⟩
      all_goals
        go_wp2_with fail
        refine HC.out.mono ?_
        rintro en w2 ⟨A2, c2', rs, rm, rfl, hR⟩
        have HR := Lib.hid hR
        obtain ⟨Am, cm, rfl, hmk⟩ := hR.mark
        have HMk := Lib.hid hmk
        have hrs : SLs w2 A2 rs ms := by
          obtain ⟨A', c', e, hr, -⟩ := RdV.own hR.row
          injection e with e1 e2 e3
          subst e1
          refine ⟨hR.len, fun k hk => ?_, fun i hi => (hR.room i hi).sb⟩
          obtain ⟨b, off, e, hc⟩ := hr k (by simp; omega)
          exact ⟨b, off, e, by rw [hc, List.getElem_append_left hk]⟩
        have HRs := Lib.hid hrs
        have HC2 := Lib.hid (pack_proof (cA := c2') w2 hrs hm40 (fun l hl => by have := HLl.out l hl; omega))
        have hb2 := hR.bel
        have hws2 := hb2.size
        have HB2 := Lib.hid hb2
        clear hR hmk hrs hb2 HC
        go_wp2_with fail
        refine HC2.out.mono ?_
        rintro en w3 ⟨Ab, cb, rfl, hob, hb3⟩
        have HOb := Lib.hid hob
        have HB3 := Lib.hid hb3
        have hws3 := hb3.size
        have HC3 := Lib.hid (refpack_any (cA := cV) w3 (HSl.out.below (HB2.out.trans (hb3.mono hws2))) hm40 (fun l hl => by have := HLl.out l hl; omega))
        clear hob hb3 HC2
        go_wp2_with fail
        refine HC3.out.mono ?_
        rintro en w4 ⟨Ar, cr, rfl, hor, hb4⟩
        have hpl := packR_len ms
        obtain ⟨pl, pc, hpk⟩ : ∃ pl pc, packR ms = (pl, pc) := ⟨_, _, rfl⟩
        rw [hpk] at hor hpl HOb ⊢
        simp only at hor hpl
        replace HOb : Hid (OwnB w3 w2.heap.size (.slice Ab pl.length cb) pl) := HOb.out
        have hcv1 := convS (HOb.out.below hb4).sb
        have hcv2 := convS hor.sb
        have hcv3 := convS (HMk.out.below (HB3.out.trans (hb4.mono hws3)))
        have HB4 := Lib.hid hb4
        have hws4 := hb4.size
        have hrow4 := own_below (own_below HR.out.row HB3.out) hb4
        obtain ⟨g9, c9, hA2, hc9, hm9, hb9, hlt9⟩ := own_form hrow4 (by omega)
        injection hA2 with hA2 _ hc9'
        subst hA2 hc9'
        have hcell : w4.cell? ⟨g9, 0 + ms.length, none⟩ = some (.slice Am 4 cm) := by
          obtain ⟨A', c', e, hr, -⟩ := RdV.own hrow4
          injection e with e1 e2 e3
          subst e1
          obtain ⟨b, off, e, hc⟩ := hr ms.length (by simp [HR.out.len])
          cases e
          rw [hc]
          congr 1
          exact last_get rs _ _ _ HR.out.len.symm
        rw [Nat.zero_add] at hcell
        have hm40' : (ms.length : Int) + 1 ≤ (c2' : Int) := by omega
        have hpl' : ¬ (131072 : Int) < (pl.length : Int) := by omega
        unfold maxLen at hm9
        clear hb4 hor hpk hrow4 hpl
        go_wp2_with (go_at_call 43; refine (num_any _ _).mono ?_; rintro en w5 ⟨rfl, rfl⟩)
        have HOb4 := Lib.hid (HOb.out.below HB4.out)
        refine (apart_g (cw := w4) (base := w2.heap.size) (vs := [.slice Ab pl.length cb]) rfl (by rfl) rfl (by rfl) (by omega) (fun i j hi hj hij => by simp at hi hj; omega) (fun v hv => by
          simp only [List.mem_singleton] at hv
          subst hv
          exact ⟨pl, HOb4.out, by omega⟩) (by omega)).mono ?_
        rintro en w5 ⟨rfl, -, hb5⟩
        have HB5 := Lib.hid ((HB3.out.trans (HB4.out.mono hws3)).trans hb5)
        have hws5 := hb5.size
        clear hb5 hcv1 hcv2 hcv3 hcell
        have hcp : (ms.length : Int) ≤ (c2' : Int) := by omega
        go_wp2_with fail
        go_loopw [76] (fun v wr => ∃ i : Nat, i ≤ ms.length ∧ v = .int .i64 i ∧ Below w2.heap.size w2 wr) (fun v _ => ms.length - (intOf v).toNat)
        case atStart => exact ⟨0, by omega, rfl, HB5.out⟩
        case round =>
          obtain ⟨i, hi, rfl, hbi⟩ := hrel
          have HBi := Lib.hid hbi
          by_cases hi1 : i < ms.length
          · obtain ⟨b1, o1, A3, c3, e1, hx1, hv1, -, hbw1⟩ := SLs.at (HRs.out.below hbi) hi1
            obtain ⟨b2, o2, A4, c4, e2, hx2, hv2, hs2, hbw2⟩ := SLs.at ((HSl.out.below HB2.out).below hbi) hi1
            have hroom := (HR.out.room i (by rw [HR.out.len]; exact hi1)).below hbi
            rw [hv1] at hroom
            obtain ⟨A5, c5, e5, ho5⟩ := hroom
            injection e5 with q1 _ q3
            subst q1 q3
            cases e1
            subst e2
            rw [Nat.zero_add] at hx1
            have hll := HLl.out ms[i] (List.getElem_mem hi1)
            have h1i : (i : Int) < (ms.length : Int) := by omega
            have hi0 : (0 : Int) ≤ (i : Int) := by omega
            have HC6 := Lib.hid (fun W (h : Below _ _ W) => aswas_any (c := c3) _ ms[i] W (ho5.sb.below h) (hs2.below h) (by omega))
            clear hbi hv1 hv2 hs2 ho5
            generalize ms[i] = x at *
            go_wp2_with fail
            go_region_held3 (fun W => W.cell? ⟨g9, i, none⟩ = some (.slice A3 x.length c3) ∧ W.cell? ⟨b2, o2 + i, none⟩ = some (.slice A4 x.length c4))
              (first | exact ⟨hx1, hx2⟩ | exact ⟨cell_later (by (repeat (first | exact Below.refl _ _ | refine bg_al ?_ | refine bg_gr ?_ | refine bg_drn ?_ | refine bg_dr ?_ | assumption))) hx1, cell_later (by (repeat (first | exact Below.refl _ _ | refine bg_al ?_ | refine bg_gr ?_ | refine bg_drn ?_ | refine bg_dr ?_ | assumption))) hx2⟩)
              ((go_at_call 44; refine (HC6.out _ (by (repeat (first | exact Below.refl _ _ | refine bg_al ?_ | refine bg_gr ?_ | refine bg_drn ?_ | refine bg_dr ?_ | assumption)))).mono ?_; rintro en w7 ⟨rfl, hb7⟩; obtain ⟨D7, rfl⟩ := gr_of_below hb7))
            go_wp2_with fail
            exact ⟨⟨i + 1, by omega, by go_num, (HBi.out.drew).trans ((by (repeat (first | exact Below.refl _ _ | refine bg_al ?_ | refine bg_gr ?_ | refine bg_drn ?_ | refine bg_dr ?_ | assumption)) : Below wr.drew.heap.size wr.drew (wr.drew.gr D7)).mono HBi.out.size)⟩, by simp [intOf]; omega⟩
          · obtain rfl : i = ms.length := by omega
            have h1i : ¬ (ms.length : Int) < (ms.length : Int) := by omega
            clear hbi
            go_wp2_with (go_at_call 45; refine (known_any _).mono ?_; rintro en w8 ⟨rfl, hb8⟩)
            go_ret
            exact ⟨rfl, (HBel.out.trans (HB2.out.mono hws)).trans ((HBi.out.trans (hb8.mono HBi.out.size)).mono (by omega))⟩
end Go.Proofs.Ytdhkhdeblkbojaa
