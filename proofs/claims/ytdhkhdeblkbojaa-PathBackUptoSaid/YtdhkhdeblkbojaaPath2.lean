/- Walks of cairnref06.Pack, path.Unpack, cairnref06.Unpack. -/
import Derived.Test.YtdhkhdeblkbojaaPath
namespace Go.Proofs.Ytdhkhdeblkbojaa
open Go.RowKit
attribute [local go_sem ↓] Go.wp_at_zero Go.wp_at_succ

theorem own_lit_at (w : World) (cs : Array Value) (e : TypeId) {size n base g : Nat} (hg : w.heap.size = g) (hb : base ≤ w.heap.size) (hm : n ≤ maxLen) (hs : cs.size = n * size) : (w.alloc (.cells cs e)).ownsRow base e size (.slice (some ⟨g, 0, none⟩) n n) n cs.toList := by
  subst hg
  exact own_lit w cs e hb hm hs
theorem pre_length (n : Nat) (leaf : Bool) : (pre n leaf).length ≤ 2 := by unfold pre; split <;> simp
theorem pre_even (l : List UInt8) (leaf : Bool) : (pre l.length leaf ++ l).length % 2 = 0 ∧ 0 < (pre l.length leaf ++ l).length := by
  unfold pre; split <;> simp <;> omega
theorem pre_small (n : Nat) (leaf : Bool) : ∀ x ∈ pre n leaf, x.toNat ≤ 3 := by
  unfold pre; split <;> cases leaf <;> simp [flag]
theorem refBytes_pre (l : List UInt8) (leaf : Bool) (h64 : l.length ≤ 64) : refBytes (pre l.length leaf ++ l) = if good l then (unnibs (pre l.length leaf ++ l), 0) else ([], 2) := by
  obtain ⟨he, h0⟩ := pre_even l leaf
  have hb : badN (pre l.length leaf ++ l) = !(good l) := by
    unfold badN good
    have h1 : pre l.length leaf ++ l ≠ [] := by intro e; rw [e] at h0; simp at h0
    have h2 : (pre l.length leaf).any (fun x => decide (15 < x.toNat)) = false := by
      rw [List.any_eq_false]
      intro x hx
      have := pre_small _ leaf x hx
      simp; omega
    rw [List.any_append, h2]
    simp only [h1, he, ne_eq, not_false_eq_true, decide_true, Bool.true_and, h64, Bool.false_or]
    rw [List.not_all_eq_any_not]
    have e : (fun x : UInt8 => decide (15 < x.toNat)) = fun a => !decide (a.toNat ≤ 15) := by
      funext a
      rw [Bool.eq_iff_iff]
      simp
    simp [e]
  unfold refBytes
  rw [hb]
  cases good l <;> simp

set_option maxHeartbeats 1000000 in
theorem refPack_any (va : Value) (l : List UInt8) (leaf : Bool) (w : World) (ha : SB w va l) :
    Calls Try.prog 16 #[va, .bool leaf] w fun e w' => ∃ v, e = .returned (.tuple #[v, .int .i64 (packE l)]) ∧ OwnB w' w.heap.size v (packB l leaf) ∧ Below w.heap.size w w' := by
  have hsrc := ha.src
  obtain ⟨A, ca, rfl, ha, na, ma, -⟩ := ha
  unfold maxLen at ma
  by_cases h64 : 64 < l.length
  · have h64' : (64 : Int) < (l.length : Int) := by omega
    have hf := Lib.hid (show good l = false by simp [good]; intro; omega)
    go_enter Try.func16, Try.ntmps16
    go_wp2
    go_ret2
    refine ⟨.slice none 0 0, by rw [packE, hf.out]; rfl, by rw [packB, hf.out]; exact OwnB.nil _ _, Below.refl _ _⟩
  · have h64' : ¬ (64 : Int) < (l.length : Int) := by omega
    have HRB := Lib.hid (refBytes_pre l leaf (by omega))
    have hpl := pre_length l.length leaf
    go_enter Try.func16, Try.ntmps16
    go_upto_if 13 with fail
    go_cut [6] (fun s6 wx => s6 = .int .u8 (((flag leaf).toNat : Nat) : Int) ∧ w = wx)
    case first =>
      cases leaf
      · go_wp2
        go_meet
        case rel => exact ⟨rfl, rfl⟩
      · go_wp2
        go_meet
        case rel => exact ⟨rfl, rfl⟩
    case rest =>
      obtain ⟨rfl, rfl⟩ := hcut
      go_upto_if 19 with fail
      go_cut [7] (fun s7 wx => OwnB wx w.heap.size s7 (pre l.length leaf) ∧ Below w.heap.size w wx)
      case first =>
        have hal : Below w.heap.size w (w.alloc (.cells #[.int .u8 (((flag leaf).toNat : Nat) : Int), .int .u8 0] 5)) := (Below.refl _ _).alloc (Nat.le_refl _) _
        have HA := Lib.hid hal
        by_cases hodd : l.length % 2 = 1
        · have hodd' : ((l.length : Int) % 2 == 1) = true := by simp; omega
          have HODD := Lib.hid hodd
          have HFL : Hid (((flag leaf).toNat : Int) + 1 = (((flag leaf + 1).toNat : Nat) : Int)) := by show _ = _; cases leaf <;> decide
          have hfl : (((flag leaf).toNat : Nat) : Int) ≤ 2 := by cases leaf <;> decide
          clear hodd hal
          go_wp2
          go_meet
          case rel =>
            refine ⟨OwnB.of (own_lit_at (w.alloc (.cells #[.int .u8 (((flag leaf).toNat : Nat) : Int), .int .u8 0] 5)) #[.int .u8 (((flag leaf).toNat : Int) + 1)] 5 (size := 1) (n := 1) (base := w.heap.size) (by simp) (by simp) (by simp [maxLen]) (by rfl)) ?_, HA.out.alloc (by simp) _⟩
            simp only [pre, HODD.out, if_true, HFL.out]
            rfl
        · have hodd' : ((l.length : Int) % 2 == 1) = false := by simp; omega
          have HODD := Lib.hid hodd
          clear hodd hal
          go_wp2
          go_meet
          case rel =>
            refine ⟨OwnB.of (own_lit w #[.int .u8 (((flag leaf).toNat : Nat) : Int), .int .u8 0] 5 (size := 1) (n := 2) (base := w.heap.size) (Nat.le_refl _) (by simp [maxLen]) (by rfl)) ?_, HA.out⟩
            simp only [pre, HODD.out, if_false]
            rfl
      case rest =>
        obtain ⟨hown, hbel⟩ := hcut
        have HO := Lib.hid hown
        have HS := Lib.hid (hsrc.below hbel)
        clear hown hsrc
        have hll : (pre l.length leaf ++ l).length ≤ 66 := by simp; omega
        go_wp2_with (at_builtin; refine wpList_ap (s := .tmp 23) (x := .tmp 24) bytesT rfl rfl (by rfl) HO.out (by rfl) HS.out (bv_one l) (by simp only [maxLen]; omega) (by omega) hbel.size ?_; intro v1 w2 hap)
        have hown2 : OwnB w2 w.heap.size v1 (pre l.length leaf ++ l) := OwnB.of hap.1 (by simp)
        have hb2 : Below w.heap.size w w2 := ap_below hbel hap hbel.size (own_ge HO.out)
        have HC := Lib.hid (bytes_any v1 (pre l.length leaf ++ l) w2 hown2.sb (by omega))
        rw [HRB.out] at HC
        clear hap
        cases hg : good l
        · simp only [hg, Bool.false_eq_true, if_false] at HC
          have HG := Lib.hid hg
          clear hg
          go_wp2_with (go_at_call 50; refine HC.out.mono ?_; rintro e w3 ⟨v3, rfl, ho3, hb3⟩)
          go_ret2
          exact ⟨.slice none 0 0, by rw [packE, HG.out]; rfl, by rw [packB, HG.out]; exact OwnB.nil _ _, bel_trans hb2 hb3⟩
        · simp only [hg, if_true] at HC
          have HG := Lib.hid hg
          clear hg
          go_wp2_with (go_at_call 50; refine HC.out.mono ?_; rintro e w3 ⟨v3, rfl, ho3, hb3⟩)
          go_ret2
          exact ⟨v3, by rw [packE, HG.out]; rfl, by rw [packB, HG.out]; exact ho3.mono hb2.size, bel_trans hb2 hb3⟩
end Go.Proofs.Ytdhkhdeblkbojaa
