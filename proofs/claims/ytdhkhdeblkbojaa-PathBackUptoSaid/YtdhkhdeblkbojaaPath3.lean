/- The walk of path.Unpack. -/
import Derived.Test.YtdhkhdeblkbojaaPath2
import Derived.Deep.CutBlock
namespace Go.Proofs.Ytdhkhdeblkbojaa
open Go.RowKit
attribute [local go_sem ↓] Go.wp_at_zero Go.wp_at_succ

/-- the nibbles that bytes stand for, before the length is looked at -/
def unpN (x : UInt8) (r : List UInt8) : List UInt8 := (if x.toNat / 16 % 2 = 1 then [x % 16] else []) ++ nibs r
def unpBad (x : UInt8) : Bool := decide (4 ≤ x.toNat / 16) || (decide (x.toNat / 16 % 2 = 0) && decide (x.toNat % 16 ≠ 0))
def unp : List UInt8 → Option (List UInt8 × Bool)
  | [] => none
  | x :: r => if unpBad x then none else if 64 < (unpN x r).length then none else some (unpN x r, decide (2 ≤ x.toNat / 16))
def unpB (l : List UInt8) : List UInt8 := match unp l with | some p => p.1 | none => []
def unpL (l : List UInt8) : Bool := match unp l with | some p => p.2 | none => false
def unpE (l : List UInt8) : Int := match unp l with | some _ => 0 | none => 60

theorem u8_andq1 (x : UInt8) : bits .and .u8 (((x.toNat : Nat) : Int) / 16) 1 = ((x.toNat : Nat) : Int) / 16 % 2 := by
  have := u8_and_nat (x.toNat / 16) 1 (by have := x.toNat_lt; omega) (by decide)
  rw [nat_mask1] at this
  exact this
theorem u8_andq2 (x : UInt8) (h : x.toNat / 16 < 4) : (bits .and .u8 (((x.toNat : Nat) : Int) / 16) 2 != 0) = decide (2 ≤ x.toNat / 16) := by
  have := u8_and_nat (x.toNat / 16) 2 (by omega) (by decide)
  have e : bits .and .u8 (((x.toNat : Nat) : Int) / 16) 2 = ((x.toNat / 16 &&& 2 : Nat) : Int) := this
  rw [e]
  generalize x.toNat / 16 = q at *
  match q, h with
  | 0, _ => decide
  | 1, _ => decide
  | 2, _ => decide
  | 3, _ => decide

set_option maxRecDepth 100000 in
set_option maxHeartbeats 1000000 in
theorem unpack_any (va : Value) (l : List UInt8) (w : World) (ha : SB w va l) (hl : l.length ≤ 1099511627776) :
    Calls Try.prog 22 #[va] w fun e w' => ∃ v, e = .returned (.tuple #[v, .bool (unpL l), .int .i64 (unpE l)]) ∧ OwnB w' w.heap.size v (unpB l) ∧ Below w.heap.size w w' := by
  obtain ⟨A, ca, rfl, ha, na, ma, -⟩ := ha
  unfold maxLen at ma
  cases l with
  | nil =>
    go_enter Try.func22, Try.ntmps22
    go_wp2
    go_ret3
    exact ⟨.slice none 0 0, rfl, OwnB.nil _ _, Below.refl _ _⟩
  | cons x r =>
    obtain ⟨b, off, rfl, hc⟩ := ha 0 (by simp)
    rw [Nat.add_zero] at hc
    simp only [List.getElem_cons_zero] at hc
    have hc' : w.cell? ⟨b, off, none⟩ = some (.int .u8 ((x.toNat : Nat) : Int)) := hc
    have h0 : (((x :: r).length : Int) == 0) = false := by simp; omega
    have hb1 : (0 : Int) < ((x :: r).length : Int) := by simp <;> omega
    have h8 := u8_lt x
    have hA1 := u8_andq1 x
    have hq : IntKind.u8.wrap (((x.toNat : Nat) : Int) / 16) = ((x.toNat : Nat) : Int) / 16 := IntWalk.u8_in _ (by omega)
    clear hc
    have HLN := Lib.hid (show (x :: r).length = r.length + 1 from rfl)
    generalize hln : (x :: r).length = ln at *
    clear hln
    go_enter Try.func22, Try.ntmps22
    go_wp2_with fail
    go_quiet (fail)
    go_upto_block 0 with fail
    go_cut [2] (fun s2 wx => unpBad x = false ∧ OwnB wx w.heap.size s2 (if x.toNat / 16 % 2 = 1 then [x % 16] else []) ∧ Below w.heap.size w wx)
    case first =>
      have hD : ∃ n, w.drewN nq = w.drewN n := ⟨_, rfl⟩
      by_cases h4 : 4 ≤ x.toNat / 16
      · have HF := Lib.hid (show unp (x :: r) = none by simp [unp, unpBad, h4])
        have t4 : (4 : Int) ≤ ((x.toNat : Nat) : Int) / 16 := by omega
        go_wp2
        go_ret3
        exact ⟨.slice none 0 0, by rw [unpL, unpE, HF.out]; rfl, by rw [unpB, HF.out]; exact OwnB.nil _ _, bel_drewN (Below.refl _ _) _⟩
      · have t4 : ¬ (4 : Int) ≤ ((x.toNat : Nat) : Int) / 16 := by omega
        by_cases h1 : x.toNat / 16 % 2 = 1
        · have HB : Hid (unpBad x = false) := by show unpBad x = false; simp [unpBad]; omega
          have t1 : (((x.toNat : Nat) : Int) / 16 % 2 == 0) = false := by simp; omega
          have t2 : (((x.toNat : Nat) : Int) / 16 % 2 != 0) = true := by simp; omega
          have H1 := Lib.hid h1
          clear h1
          go_wp2_with (at_builtin; refine wpList_ap (s := .tmp 34) (x := .tmp 36) bytesT rfl rfl (by rfl) (own_nil _ w.heap.size _ _) (by rfl) (Src.block (m := 1) (heap_alloc_new _ _) (by rfl)) (by simp [Value.oneCell']) (by simp [maxLen]) (by omega) (by simp) ?_; intro v1 w2 hap)
          go_meet
          case rel =>
            refine ⟨HB.out, ?_, ap_below ((bel_drewN (Below.refl _ _) _).alloc (Nat.le_refl _) _) hap (by simp) (fun k hk => by simp [Value.ownBlock] at hk)⟩
            rw [if_pos H1.out]
            exact OwnB.of hap.1 (by simp [bv])
        · have t1 : (((x.toNat : Nat) : Int) / 16 % 2 == 0) = true := by simp; omega
          have t2 : (((x.toNat : Nat) : Int) / 16 % 2 != 0) = false := by simp; omega
          have H1 := Lib.hid h1
          clear h1
          by_cases h5 : x.toNat % 16 = 0
          · have HB : Hid (unpBad x = false) := by show unpBad x = false; have := H1.out; simp [unpBad, h5]; omega
            have t5 : (((x.toNat : Nat) : Int) % 16 != 0) = false := by simp; omega
            clear h5
            go_wp2
            go_meet
            case rel => exact ⟨HB.out, by rw [if_neg H1.out]; exact OwnB.nil _ _, bel_drewN (Below.refl _ _) _⟩
          · have HF := Lib.hid (show unp (x :: r) = none by have := H1.out; simp [unp, unpBad, h5]; omega)
            have t5 : (((x.toNat : Nat) : Int) % 16 != 0) = true := by simp; omega
            clear h5
            go_wp2
            go_ret3
            exact ⟨.slice none 0 0, by rw [unpL, unpE, HF.out]; rfl, by rw [unpB, HF.out]; exact OwnB.nil _ _, bel_drewN (Below.refl _ _) _⟩
    case rest =>
      obtain ⟨hbad, hown, hbel⟩ := hcut
      have HB := Lib.hid hbad
      have HO := Lib.hid hown
      have h4 : x.toNat / 16 < 4 := by
        have := hbad
        simp only [unpBad, Bool.or_eq_false_iff, decide_eq_false_iff_not] at this
        omega
      clear hbad hown
      have hlnr := HLN.out
      have hr : RdB w (cutA (some ⟨b, off, none⟩) ca 1) r := by
        have h := ha.cut (c := ca) (k := 1) (by simp; omega)
        simpa using h
      have hsl : ∀ W, (Instr.slice 22 (.slice (some ⟨b, off, none⟩) ln ca) (some (.int .i64 1)) none none).run Try.prog W = .ok (.slice (cutA (some ⟨b, off, none⟩) ca 1) (ln - 1) (ca - 1)) W := run_slice_from bytesT _ _ _ 1 (by omega)
      have hb3 : (1 : Int) ≤ (ln : Int) := by omega
      generalize hcut : cutA (some ⟨b, off, none⟩) ca 1 = A' at *
      clear hcut
      have hrl : r.length = ln - 1 := by omega
      have HRL := Lib.hid hrl
      clear hrl hlnr
      go_wp2_with fail
      go_loopw [2, 41] (fun v i wr => ∃ k : Nat, k ≤ r.length ∧ i = .int .i64 k ∧ OwnB wr w.heap.size v ((if x.toNat / 16 % 2 = 1 then [x % 16] else []) ++ nibs (r.take k)) ∧ Below w.heap.size w wr) (fun _ i _ => r.length - (intOf i).toNat)
      case atStart => exact ⟨0, by omega, rfl, by simpa [nibs] using HO.out, hbel⟩
      case round =>
        obtain ⟨k, hk, rfl, hown, hbel⟩ := hrel
        have hk2 : k ≤ ln - 1 := by have := HRL.out; omega
        have HO1 := Lib.hid hown
        by_cases h1 : k < r.length
        · have hk3 : k < ln - 1 := by have := HRL.out; omega
          obtain ⟨b', off', rfl, hc0⟩ := hr k h1
          rw [← hbel.cell (World.block_lt_of_cell? w _ hc0)] at hc0
          have h8k := u8_lt r[k]
          have hi1 : (k : Int) < ((ln - 1 : Nat) : Int) := by omega
          have hul : ((if x.toNat / 16 % 2 = 1 then [x % 16] else []) ++ nibs (r.take k)).length ≤ 1 + 2 * 1099511627776 := by
            have := List.length_take_le k r
            have := HRL.out
            rw [List.length_append, nibs_length]
            split <;> simp <;> omega
          clear hown
          go_wp2_with (at_builtin; refine wpList_ap (s := .tmp 45) (x := .tmp 50) bytesT rfl rfl (by rfl) (own_below HO1.out ((Below.refl _ _).alloc (Nat.le_refl _) _)) (by rfl) (Src.block (m := 2) (heap_alloc_new _ _) (by rfl)) (by simp [Value.oneCell']) (by simp only [maxLen]; omega) (by omega) (by have := hbel.size; simp; omega) ?_; intro v1 w2 hap)
          refine ⟨⟨k + 1, by omega, by go_num, OwnB.of hap.1 ?_, ap_below (hbel.alloc hbel.size _) hap (by have := hbel.size; simp; omega) (own_ge HO1.out)⟩, by simp [intOf]; omega⟩
          rw [take_snoc r k h1, nibs_snoc]
          simp [bv]
          done
        · have hkr : k = r.length := by omega
          have HK := Lib.hid hkr
          have hi1 : ¬ (k : Int) < ((ln - 1 : Nat) : Int) := by have := HRL.out; omega
          clear hkr
          have hO := HO1.out
          rw [HK.out, List.take_length] at hO
          have hO' : OwnB wr w.heap.size u2 (unpN x r) := hO
          obtain ⟨A2, c2, rfl, hR2, hc2, hm2, -⟩ := hO'.form
          have HO2 := Lib.hid hO'
          clear hO hO' hown HO1
          by_cases h64 : 64 < (unpN x r).length
          · have h64' : (64 : Int) < ((unpN x r).length : Int) := by omega
            have HF := Lib.hid (show unp (x :: r) = none by rw [unp, if_neg (by rw [HB.out]; simp), if_pos h64])
            clear h64
            go_wp2
            go_ret3
            exact ⟨.slice none 0 0, by rw [unpL, unpE, HF.out]; rfl, by rw [unpB, HF.out]; exact OwnB.nil _ _, hbel⟩
          · have h64' : ¬ (64 : Int) < ((unpN x r).length : Int) := by omega
            have HF := Lib.hid (show unp (x :: r) = some (unpN x r, decide (2 ≤ x.toNat / 16)) by rw [unp, if_neg (by rw [HB.out]; simp), if_neg h64])
            have hA2 := u8_andq2 x h4
            clear h64
            go_wp2
            go_ret3
            refine ⟨_, by rw [unpL, unpE, HF.out]; rfl, by rw [unpB, HF.out]; exact HO2.out, hbel⟩
end Go.Proofs.Ytdhkhdeblkbojaa
