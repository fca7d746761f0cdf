/- The walk of cairnlaw06.PathBack. -/
import Derived.Test.YtdhkhdeblkbojaaLawPath
import Derived.Deep.CutBlock
namespace Go.Proofs.Ytdhkhdeblkbojaa
open Go.RowKit
attribute [local go_sem ↓] Go.wp_at_zero Go.wp_at_succ

theorem nibs_unnibs (l : List UInt8) (he : l.length % 2 = 0) (h : ∀ x ∈ l, x.toNat ≤ 15) : nibs (unnibs l) = l := by
  induction l using unnibs.induct with
  | case1 a b r ih =>
    have ha := h a (by simp)
    have hb := h b (by simp)
    have := ih (by simp at he; omega) (fun x hx => h x (by simp [hx]))
    show ((16 * a + b) / 16) :: ((16 * a + b) % 16) :: nibs (unnibs r) = _
    rw [this]
    have h1 := pack_nat a b (by omega) (by omega)
    congr 1
    · apply UInt8.toNat_inj.1
      rw [UInt8.toNat_div, h1]; simp; omega
    · congr 1
      apply UInt8.toNat_inj.1
      rw [UInt8.toNat_mod, h1]; simp; omega
  | case2 l h' =>
    match l, h' with
    | [], _ => rfl
    | [a], _ => simp at he
    | a :: b :: r, h' => exact (h' a b r rfl).elim

theorem good_all {l : List UInt8} (h : good l = true) : l.length ≤ 64 ∧ ∀ x ∈ l, x.toNat ≤ 15 := by
  simp only [good, Bool.and_eq_true, List.all_eq_true, decide_eq_true_eq] at h
  exact h

/-- the packed form, its first byte and the rest -/
theorem pack_parts (N : List UInt8) (hg : good N = true) : ∃ a t, a.toNat ≤ 31 ∧ t.length = N.length / 2 ∧ packB N true = (a + 32) :: t ∧ packB N false = a :: t ∧
    unp ((a + 32) :: t) = some (N, true) ∧ unp (a :: t) = some (N, false) := by
  obtain ⟨h64, hall⟩ := good_all hg
  by_cases hodd : N.length % 2 = 1
  · match N, hodd with
    | y :: r, hodd =>
      have hy := hall y (by simp)
      have hr : nibs (unnibs r) = r := nibs_unnibs r (by simp at hodd; omega) (fun x hx => hall x (by simp [hx]))
      have hp : ∀ leaf, packB (y :: r) leaf = (16 * (flag leaf + 1) + y) :: unnibs r := fun leaf => by
        rw [packB, if_pos hg, pre, if_pos hodd]; rfl
      have ha : (16 * (flag false + 1) + y).toNat = 16 + y.toNat := pack_nat 1 y (by decide) (by omega)
      have hb : (16 * (flag true + 1) + y).toNat = 48 + y.toNat := pack_nat 3 y (by decide) (by omega)
      have hab : 16 * (flag true + 1) + y = (16 * (flag false + 1) + y) + 32 := by
        apply UInt8.toNat_inj.1
        rw [hb, UInt8.toNat_add, ha]; simp; omega
      have hm : ∀ z : UInt8, z.toNat % 16 = y.toNat → z % 16 = y := fun z hz => by
        apply UInt8.toNat_inj.1
        rw [UInt8.toNat_mod]; simpa using hz
      have hu : ∀ (z : UInt8) (q : Nat), z.toNat = 16 * q + y.toNat → (q = 1 ∨ q = 3) → unp (z :: unnibs r) = some (y :: r, decide (2 ≤ q)) := fun z q hz hq => by
        have hd : z.toNat / 16 = q := by omega
        have hmod : z.toNat % 16 = y.toNat := by omega
        have e : unpN z (unnibs r) = y :: r := by
          rw [unpN, hd, if_pos (by omega), hr, hm z hmod]; rfl
        rw [unp, e, if_neg (by simp [unpBad, hd]; omega), if_neg (by simpa using h64), hd]
      refine ⟨16 * (flag false + 1) + y, unnibs r, by omega, by rw [unnibs_length]; simp at hodd ⊢; omega, ?_, hp false, ?_, ?_⟩
      · rw [hp true, hab]
      · rw [← hab]; exact hu _ 3 hb (.inr rfl)
      · exact hu _ 1 ha (.inl rfl)
  · have hr : nibs (unnibs N) = N := nibs_unnibs N (by omega) hall
    have hp : ∀ leaf, packB N leaf = (16 * flag leaf) :: unnibs N := fun leaf => by
      rw [packB, if_pos hg, pre, if_neg hodd]
      show (16 * flag leaf + 0) :: unnibs N = _
      simp
    have hu : ∀ (z : UInt8) (q : Nat), z.toNat = 16 * q → (q = 0 ∨ q = 2) → unp (z :: unnibs N) = some (N, decide (2 ≤ q)) := fun z q hz hq => by
      have hd : z.toNat / 16 = q := by omega
      have hmod : z.toNat % 16 = 0 := by omega
      have e : unpN z (unnibs N) = N := by
        rw [unpN, hd, if_neg (by omega), hr]; rfl
      rw [unp, e, if_neg (by simp [unpBad, hd, hmod]; omega), if_neg (by omega), hd]
    refine ⟨16 * flag false, unnibs N, by decide, by rw [unnibs_length], ?_, hp false, ?_, ?_⟩
    · rw [hp true]; rfl
    · exact hu _ 2 (by decide) (.inr rfl)
    · exact hu _ 0 (by decide) (.inl rfl)

theorem unp_back {l n : List UInt8} {leaf : Bool} (h : unp l = some (n, leaf)) : good n = true ∧ packB n leaf = l := by
  by_cases h0 : l = []
  · subst h0; cases h
  · rw [unp_ref l h0] at h
    split at h
    · rename_i hc
      simp only [Bool.and_eq_true, beq_iff_eq] at hc
      cases h
      exact hc
    · cases h

/-- the nibbles that PathBack takes -/
def low (l : List UInt8) (k : Nat) : List UInt8 := (l.take k).map (· % 16)
theorem low_snoc (l : List UInt8) (k : Nat) (h : k < l.length) : low l (k + 1) = low l k ++ [l[k] % 16] := by
  rw [low, take_snoc l k h, List.map_append]; rfl
theorem low_good (l : List UInt8) (k : Nat) (h : k ≤ 64) : good (low l k) = true := by
  simp only [good, Bool.and_eq_true, List.all_eq_true, decide_eq_true_eq]
  refine ⟨by simp [low]; omega, fun x hx => ?_⟩
  simp only [low, List.mem_map] at hx
  obtain ⟨y, _, rfl⟩ := hx
  have := y.toNat_lt
  rw [UInt8.toNat_mod]; simp; omega

set_option maxRecDepth 100000 in
set_option maxHeartbeats 4000000 in
theorem pathBack_any (va vb : Value) (la lb : List UInt8) (w : World) (ha : SB w va la) (hb : SB w vb lb) (hla : la.length ≤ 1048576) (hlb : lb.length ≤ 1048576) :
    Calls Try.prog 5 #[va, vb] w fun e w' => e = .returned (.bool true) ∧ Below w.heap.size w w' := by
  have HBb := Lib.hid hb
  obtain ⟨A, ca, rfl, ha, na, ma, -⟩ := ha
  unfold maxLen at ma
  clear hb
  go_enter Try.func5, Try.ntmps5
  go_upto_block 0 with fail
  go_cut [5] (fun v wx => ∃ N : List UInt8, good N = true ∧ OwnB wx w.heap.size v N ∧ Below w.heap.size w wx)
  case first =>
    go_wp2_with fail
    go_loopw [5, 6] (fun v i wr => ∃ k : Nat, k ≤ la.length ∧ k ≤ 64 ∧ i = .int .i64 k ∧ OwnB wr w.heap.size v (low la k) ∧ Below w.heap.size w wr) (fun _ i _ => la.length - (intOf i).toNat)
    case atStart => exact ⟨0, by omega, by omega, rfl, OwnB.nil _ _, Below.refl _ _⟩
    case round =>
      obtain ⟨k, hk, hk64, rfl, hown, hbel⟩ := hrel
      have HO := Lib.hid hown
      by_cases h1 : k < la.length ∧ k < 64
      · obtain ⟨h1, h2⟩ := h1
        obtain ⟨b, off, rfl, hc0⟩ := ha k h1
        rw [← hbel.cell (World.block_lt_of_cell? w _ hc0)] at hc0
        have h8 := u8_lt la[k]
        have hi1 : (k : Int) < (la.length : Int) := by omega
        have hi2 : (k : Int) < 64 := by omega
        have hul : (low la k).length ≤ 64 := by simp [low]; omega
        clear hown
        go_wp2_with (at_builtin; refine wpList_ap (s := .tmp 32) (x := .tmp 38) bytesT rfl rfl (by rfl) (own_below HO.out ((Below.refl _ _).alloc (Nat.le_refl _) _)) (by rfl) (Src.block (m := 1) (heap_alloc_new _ _) (by rfl)) (by simp [Value.oneCell']) (by simp only [maxLen]; omega) (by omega) (by have := hbel.size; simp; omega) ?_; intro v1 w2 hap)
        refine ⟨⟨k + 1, by omega, by omega, by go_num, OwnB.of hap.1 ?_, ap_below (hbel.alloc hbel.size _) hap (by have := hbel.size; simp; omega) (own_ge HO.out)⟩, by simp [intOf]; omega⟩
        rw [low_snoc la k h1]
        simp [bv]
      · have hG := low_good la k hk64
        generalize low la k = N at *
        have H1 := Lib.hid h1
        have HG := Lib.hid hG
        have hnot : (k : Int) < (la.length : Int) → ¬ (k : Int) < 64 := fun h h' => H1.out ⟨by omega, by omega⟩
        clear hown h1 hG
        by_cases h2 : k < la.length
        · have hi1 : (k : Int) < (la.length : Int) := by omega
          have hi2 : ¬ (k : Int) < 64 := hnot hi1
          clear hnot
          go_wp2_with fail
          go_meet
          case rel => exact ⟨N, HG.out, HO.out, hbel⟩
        · have hi1 : ¬ (k : Int) < (la.length : Int) := by omega
          clear hnot
          go_wp2_with fail
          go_meet
          case rel => exact ⟨N, HG.out, HO.out, hbel⟩
  case rest =>
    obtain ⟨N, hG, hown, hbel⟩ := hcut
    obtain ⟨a, t, ha31, htl, hpt, hpf, hut, huf⟩ := pack_parts N hG
    have hpe : packE N = 0 := by rw [packE, hG]; rfl
    have hN64 := (good_all hG).1
    obtain ⟨A5, c5, rfl, -⟩ := hown.form
    have HP := Lib.hid (And.intro hpt (And.intro hpf (And.intro hut (And.intro huf hpe))))
    have HG := Lib.hid hG
    have HO := Lib.hid hown
    have HB0 := Lib.hid hbel
    clear hpt hpf hut huf hpe hG hown hbel
    go_wp2_with fail
    refine (pack_any _ N true wc HO.out.sb).mono ?_
    rintro e w1 ⟨vp, rfl, ho1, hb1⟩
    rw [HP.out.2.2.2.2]
    rw [HP.out.1] at ho1
    have HO1 := Lib.hid ho1
    have HB1 := Lib.hid hb1
    clear ho1 hb1
    go_wp2_with fail
    refine (pack_any _ N false _ (HO.out.below HB1.out).sb).mono ?_
    rintro e w2 ⟨vq, rfl, ho2, hb2⟩
    rw [HP.out.2.2.2.2]
    rw [HP.out.2.1] at ho2
    have HO2 := Lib.hid ho2
    have HB2 := Lib.hid hb2
    clear ho2 hb2
    obtain ⟨g1, cp, e1, hc1, hm1, hg1, hg1'⟩ := own_form HO1.out (by simp)
    obtain ⟨g2, cq, e2, hc2, hm2, hg2, hg2'⟩ := own_form HO2.out (by simp)
    subst e1 e2
    have hcp := (HO1.out.below HB2.out).cell 0 (by simp)
    have hcq := HO2.out.cell 0 (by simp)
    simp only [List.getElem_cons_zero] at hcp hcq
    have ea : (((a + 32).toNat : Nat) : Int) = ((a.toNat : Nat) : Int) + 32 := by
      have : (a + 32).toNat = a.toNat + 32 := by rw [UInt8.toNat_add]; simp; omega
      omega
    rw [ea] at hcp
    have lp : ((a + 32) :: t).length = N.length / 2 + 1 := by simp [htl]
    have lq : (a :: t).length = N.length / 2 + 1 := by simp [htl]
    rw [lp] at hc1
    rw [lq] at hc2
    have rp := (HO1.out.below HB2.out).rd
    have rq := HO2.out.rd
    have hbf : Below w2.heap.size w2 w2 := Below.refl _ _
    have HSP := Lib.hid (SB.cutS rp lp.symm hc1 hm1 (k := 1) (by omega))
    have HSQ := Lib.hid (SB.cutS rq lq.symm hc2 hm2 (k := 1) (by omega))
    have HLP := Lib.hid (And.intro lp (And.intro lq htl))
    simp only [List.drop_succ_cons, List.drop_zero] at HSP HSQ
    unfold maxLen at hm1 hm2
    have hsl1 : ∀ W, (Instr.slice 22 (.slice (some ⟨g1, 0, none⟩) (N.length / 2 + 1) cp) (some (.int .i64 1)) none none).run Try.prog W = .ok (.slice (cutA (some ⟨g1, 0, none⟩) cp 1) (N.length / 2 + 1 - 1) (cp - 1)) W := run_slice_from bytesT _ _ _ 1 (by omega)
    have hsl2 : ∀ W, (Instr.slice 22 (.slice (some ⟨g2, 0, none⟩) (N.length / 2 + 1) cq) (some (.int .i64 1)) none none).run Try.prog W = .ok (.slice (cutA (some ⟨g2, 0, none⟩) cq 1) (N.length / 2 + 1 - 1) (cq - 1)) W := run_slice_from bytesT _ _ _ 1 (by omega)
    rw [lp, lq]
    have hi1 : (0 : Int) < (N.length : Int) / 2 + 1 := by omega
    have hi2 : (0 : Int) ≤ (N.length : Int) / 2 := by omega
    have hi3 : (1 : Int) ≤ (N.length : Int) / 2 + 1 := by omega
    have h8 : ((a.toNat : Nat) : Int) ≤ 31 := by omega
    clear htl lp lq ea
    have hw8 : IntKind.u8.wrap (((a.toNat : Nat) : Int) + 32) = ((a.toNat : Nat) : Int) + 32 := IntWalk.u8_in _ (by omega)
    have hwq : IntKind.i64.wrap ((N.length : Int) / 2) = (N.length : Int) / 2 := IntWalk.i64_in _ (by omega)
    have hws : IntKind.i64.wrap ((N.length : Int) / 2 + 1) = (N.length : Int) / 2 + 1 := IntWalk.i64_in _ (by omega)
    go_upto_region 8 with fail
    go_cut [93] (fun s93 wx => s93 = .bool false ∧ Below w2.heap.size w2 wx)
    case first =>
      go_region_held3 (fun w' => w'.cell? ⟨g1, 0, none⟩ = some (.int .u8 (((a.toNat : Nat) : Int) + 32)) ∧ w'.cell? ⟨g2, 0, none⟩ = some (.int .u8 ((a.toNat : Nat) : Int))) (first | exact ⟨hcp, hcq⟩ | exact ⟨cell_later hb4 hcp, cell_later hb4 hcq⟩)
        (first
          | (go_at_call 17; refine (same_true (HSP.out.below (by (repeat (first | exact Below.refl _ _ | refine bel_al ?_ | refine bel_drewN ?_ _ | refine Below.drew ?_ | assumption)))) (HSQ.out.below (by (repeat (first | exact Below.refl _ _ | refine bel_al ?_ | refine bel_drewN ?_ _ | refine Below.drew ?_ | assumption))))).mono ?_; rintro e w3 ⟨rfl, n3, rfl⟩)
          | (go_at_call 21; refine (fixed06_any _).mono ?_; rintro e w4 ⟨rfl, hb4⟩))
      go_wp2_with fail
      go_meet
      case rel => exact ⟨rfl, bel_trans (show Below w2.heap.size w2 _ by (repeat (first | exact Below.refl _ _ | refine bel_al ?_ | refine bel_drewN ?_ _ | refine Below.drew ?_ | assumption))) hb4⟩
    case rest =>
      obtain ⟨rfl, hb5⟩ := hcut
      have HB5 := Lib.hid hb5
      clear hb5 hw8 hwq hws hsl1 hsl2 hcp hcq
      have up1 : unpB ((a + 32) :: t) = N ∧ unpL ((a + 32) :: t) = true ∧ unpE ((a + 32) :: t) = 0 := ⟨unpB_some HP.out.2.2.1, unpL_some HP.out.2.2.1, unpE_some HP.out.2.2.1⟩
      have up2 : unpB (a :: t) = N ∧ unpL (a :: t) = false ∧ unpE (a :: t) = 0 := ⟨unpB_some HP.out.2.2.2.1, unpL_some HP.out.2.2.2.1, unpE_some HP.out.2.2.2.1⟩
      have HU1 := Lib.hid up1
      have HU2 := Lib.hid up2
      clear up1 up2
      have hO1 := HO1.out.sb
      have hO2 := HO2.out.sb
      rw [HLP.out.1] at hO1
      rw [HLP.out.2.1] at hO2
      have HS1 := Lib.hid hO1
      have HS2 := Lib.hid hO2
      clear hO1 hO2
      have htl3 : t.length ≤ 40 := by have := HLP.out.2.2; omega
      go_wp2_with fail
      refine (unpack_any _ ((a + 32) :: t) _ (HS1.out.below (by (repeat (first | exact Below.refl _ _ | refine bel_al ?_ | refine bel_drewN ?_ _ | refine Below.drew ?_ | refine bel_trans ?_ HB5.out | refine bel_trans ?_ HB2.out)))) (by simp; omega)).mono ?_
      rintro e w6 ⟨vm, rfl, ho6, hb6⟩
      rw [HU1.out.2.1, HU1.out.2.2]
      rw [HU1.out.1] at ho6
      have HO6 := Lib.hid ho6
      have HB6 := Lib.hid hb6
      clear ho6 hb6
      go_wp2_with fail
      refine (unpack_any _ (a :: t) _ (HS2.out.below (by (repeat (first | exact Below.refl _ _ | refine bel_al ?_ | refine bel_drewN ?_ _ | refine Below.drew ?_ | refine bel_trans ?_ HB6.out | refine bel_trans ?_ HB5.out)))) (by simp; omega)).mono ?_
      rintro e w7 ⟨vk, rfl, ho7, hb7⟩
      rw [HU2.out.2.1, HU2.out.2.2]
      rw [HU2.out.1] at ho7
      have HO7 := Lib.hid ho7
      have HB7 := Lib.hid hb7
      clear ho7 hb7
      go_wp2_with fail
      refine (same_true (HO6.out.sb.below (by (repeat (first | exact Below.refl _ _ | refine bel_al ?_ | refine bel_drewN ?_ _ | refine Below.drew ?_ | refine bel_trans ?_ HB7.out)))) (HO.out.sb.below (by (repeat (first | exact Below.refl _ _ | refine bel_al ?_ | refine bel_drewN ?_ _ | refine Below.drew ?_ | refine bel_trans ?_ HB7.out | refine bel_trans ?_ HB6.out | refine bel_trans ?_ HB5.out | refine bel_trans ?_ HB2.out | refine bel_trans ?_ HB1.out))))).mono ?_
      rintro e w8 ⟨rfl, n8, rfl⟩
      go_wp2_with fail
      refine (same_true (HO7.out.sb.below (by (repeat (first | exact Below.refl _ _ | refine bel_al ?_ | refine bel_drewN ?_ _ | refine Below.drew ?_ | assumption)))) (HO.out.sb.below (by (repeat (first | exact Below.refl _ _ | refine bel_al ?_ | refine bel_drewN ?_ _ | refine Below.drew ?_ | refine bel_trans ?_ HB7.out | refine bel_trans ?_ HB6.out | refine bel_trans ?_ HB5.out | refine bel_trans ?_ HB2.out | refine bel_trans ?_ HB1.out))))).mono ?_
      rintro e w9 ⟨rfl, n9, rfl⟩
      go_wp2_with fail
      refine (unpack_any vb lb _ (HBb.out.below (by (repeat (first | exact Below.refl _ _ | refine bel_al ?_ | refine bel_drewN ?_ _ | refine Below.drew ?_ | refine bel_trans ?_ HB7.out | refine bel_trans ?_ HB6.out | refine bel_trans ?_ HB5.out | refine bel_trans ?_ HB2.out | refine bel_trans ?_ HB1.out | refine bel_trans ?_ HB0.out)))) (by omega)).mono ?_
      rintro e w10 ⟨vx, rfl, ho10, hb10⟩
      have HO10 := Lib.hid ho10
      have HB10 := Lib.hid hb10
      clear ho10 hb10
      have HW10 : Hid (Below w.heap.size w w10) := by
        show Below _ _ _
        (repeat (first | exact Below.refl _ _ | refine bel_al ?_ | refine bel_drewN ?_ _ | refine Below.drew ?_ | refine bel_trans ?_ HB10.out | refine bel_trans ?_ HB7.out | refine bel_trans ?_ HB6.out | refine bel_trans ?_ HB5.out | refine bel_trans ?_ HB2.out | refine bel_trans ?_ HB1.out | refine bel_trans ?_ HB0.out))
      cases hup : unp lb with
      | none =>
        have HE := Lib.hid (And.intro (unpE_none hup) (And.intro (unpL_none hup) (unpB_none hup)))
        rw [HE.out.1, HE.out.2.1]
        have hO10 := HO10.out
        rw [HE.out.2.2] at hO10
        obtain ⟨Ax, cx, rfl, -⟩ := hO10.form
        clear hup hO10
        go_wp2_with fail
        go_ret
        exact ⟨rfl, HW10.out⟩
      | some q =>
        obtain ⟨n, leaf⟩ := q
        obtain ⟨hgn, hpn⟩ := unp_back hup
        have HE := Lib.hid (And.intro (unpE_some hup) (And.intro (unpL_some hup) (unpB_some hup)))
        have hen : packE n = 0 := by rw [packE, hgn]; rfl
        rw [HE.out.1, HE.out.2.1]
        have hO10 := HO10.out
        rw [HE.out.2.2] at hO10
        have HO11 := Lib.hid hO10
        have HPN := Lib.hid hpn
        have HEN := Lib.hid hen
        clear hup hO10 hgn hpn hen
        go_wp2_with fail
        refine (pack_any vx n leaf w10 HO11.out.sb).mono ?_
        rintro e w11 ⟨vy, rfl, ho12, hb12⟩
        rw [HEN.out]
        rw [HPN.out] at ho12
        have HO12 := Lib.hid ho12
        have HB12 := Lib.hid hb12
        clear ho12 hb12
        go_wp2_with fail
        refine (same_true HO12.out.sb (HBb.out.below (by (repeat (first | exact Below.refl _ _ | refine bel_al ?_ | refine bel_drewN ?_ _ | refine Below.drew ?_ | refine bel_trans ?_ HB12.out | refine bel_trans ?_ HW10.out))))).mono ?_
        rintro e w13 ⟨rfl, n13, rfl⟩
        go_wp2_with fail
        go_ret
        refine ⟨rfl, ?_⟩
        (repeat (first | exact Below.refl _ _ | refine bel_al ?_ | refine bel_drewN ?_ _ | refine Below.drew ?_ | refine bel_trans ?_ HB12.out | refine bel_trans ?_ HW10.out))
end Go.Proofs.Ytdhkhdeblkbojaa
