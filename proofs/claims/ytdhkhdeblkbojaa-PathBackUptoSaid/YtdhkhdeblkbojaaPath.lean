/- Walks of path.Pack. -/
import Derived.Test.YtdhkhdeblkbojaaLaw01
import Derived.LoopTactic
import Derived.Deep.DeepCutAuto
namespace Go.Proofs.Ytdhkhdeblkbojaa
open Go.RowKit
attribute [local go_sem ↓] Go.wp_at_zero Go.wp_at_succ

def flag (leaf : Bool) : UInt8 := if leaf then 2 else 0
def pre (n : Nat) (leaf : Bool) : List UInt8 := if n % 2 = 1 then [flag leaf + 1] else [flag leaf, 0]
def good (l : List UInt8) : Bool := decide (l.length ≤ 64) && l.all (fun x => decide (x.toNat ≤ 15))
theorem good_get {l : List UInt8} (h : good l = true) (k : Nat) (hk : k < l.length) : l[k].toNat ≤ 15 := by
  simp only [good, Bool.and_eq_true, List.all_eq_true, decide_eq_true_eq] at h
  exact h.2 _ (List.getElem_mem hk)
theorem good_drop {l : List UInt8} (h : good l = true) (k : Nat) : good (l.drop k) = true := by
  simp only [good, Bool.and_eq_true, List.all_eq_true, decide_eq_true_eq] at h ⊢
  exact ⟨by simp; omega, fun x hx => h.2 x (List.mem_of_mem_drop hx)⟩
theorem pre_odd {l : List UInt8} (leaf : Bool) (h : l.length % 2 = 1) (x : UInt8) (hx : l[0]? = some x) : unnibs (pre l.length leaf ++ l) = (16 * (flag leaf + 1) + x) :: unnibs (l.drop 1) := by
  match l, hx with
  | a :: r, hx =>
    have e : a = x := by simpa using hx
    subst e
    simp only [pre, h, if_true]; rfl
theorem pack_nat (x y : UInt8) (hx : x.toNat < 16) (hy : y.toNat < 16) : (16 * x + y).toNat = x.toNat * 16 + y.toNat := by
  simp [UInt8.toNat_add, UInt8.toNat_mul]; omega
theorem bits_pack (x y : UInt8) (hx : x.toNat < 16) (hy : y.toNat < 16) : bits .or .u8 (((x.toNat : Nat) : Int) * 16) ((y.toNat : Nat) : Int) = (((16 * x + y).toNat : Nat) : Int) := by
  have h := u8_or_nat (x.toNat * 16) y.toNat (by omega) y.toNat_lt
  rw [nat_join 4 _ _ (by omega) (by omega)] at h
  rw [pack_nat x y hx hy, ← h]
  rfl
def packB (l : List UInt8) (leaf : Bool) : List UInt8 := if good l then unnibs (pre l.length leaf ++ l) else []
def packE (l : List UInt8) : Int := if good l then 0 else 60

set_option maxHeartbeats 1000000 in
theorem pack_any (va : Value) (l : List UInt8) (leaf : Bool) (w : World) (ha : SB w va l) :
    Calls Try.prog 15 #[va, .bool leaf] w fun e w' => ∃ v, e = .returned (.tuple #[v, .int .i64 (packE l)]) ∧ OwnB w' w.heap.size v (packB l leaf) ∧ Below w.heap.size w w' := by
  obtain ⟨A, ca, rfl, ha, na, ma, -⟩ := ha
  unfold maxLen at ma
  by_cases h64 : 64 < l.length
  · have h64' : (64 : Int) < (l.length : Int) := by omega
    have hf := Lib.hid (show good l = false by simp [good]; intro; omega)
    go_enter Try.func15, Try.ntmps15
    go_wp2
    go_ret2
    refine ⟨.slice none 0 0, by rw [packE, hf.out]; rfl, by rw [packB, hf.out]; exact OwnB.nil _ _, Below.refl _ _⟩
  · have h64' : ¬ (64 : Int) < (l.length : Int) := by omega
    go_enter Try.func15, Try.ntmps15
    go_wp2_with fail
    go_loop [7, 17] (fun _ i => ∃ k : Nat, k ≤ l.length ∧ i = .int .i64 k ∧ (∀ j (hj : j < l.length), j < k → l[j].toNat ≤ 15)) (fun _ i => l.length - (intOf i).toNat)
    case atStart => exact ⟨0, by omega, rfl, fun j _ h => by omega⟩
    case round =>
      obtain ⟨k, hk, rfl, hle⟩ := hrel
      by_cases h1 : k < l.length
      · obtain ⟨b, off, rfl, hc⟩ := ha k h1
        have hb1 : (k : Int) < (l.length : Int) := by omega
        have HL := Lib.hid hle
        clear hle
        by_cases h2 : 15 < l[k].toNat
        · have hf := Lib.hid (show good l = false by
            simp only [good, Bool.and_eq_false_iff, List.all_eq_false]
            exact .inr ⟨l[k], List.getElem_mem h1, by simp; omega⟩)
          have h2' : (15 : Int) < ((l[k].toNat : Nat) : Int) := by omega
          go_wp2
          go_ret2
          refine ⟨.slice none 0 0, by rw [packE, hf.out]; rfl, by rw [packB, hf.out]; exact OwnB.nil _ _, Below.refl _ _⟩
        · have h2' : ¬ (15 : Int) < ((l[k].toNat : Nat) : Int) := by omega
          go_wp2
          go_round
          case rel => exact ⟨k + 1, by omega, by go_num, fun j hj hjk => by
            by_cases e : j < k
            · exact HL.out j hj e
            · have : j = k := by omega
              subst this
              omega⟩
          case measure => simp [intOf]; omega
      · have hkl : k = l.length := by omega
        subst hkl
        have HG := Lib.hid (show good l = true by
          simp only [good, Bool.and_eq_true, decide_eq_true_eq, List.all_eq_true]
          refine ⟨by omega, fun x hx => ?_⟩
          obtain ⟨j, hj, rfl⟩ := List.mem_iff_getElem.1 hx
          exact hle j hj hj)
        clear hle
        go_upto_if 24 with fail
        go_cut [8] (fun s8 wx => s8 = .int .u8 (((flag leaf).toNat : Nat) : Int) ∧ w = wx)
        case first =>
          cases leaf
          · go_wp2
            go_meet
            case rel => exact ⟨rfl, rfl⟩
          · go_wp2
            go_meet
            case rel => exact ⟨congrArg (Value.int .u8) (by decide), rfl⟩
        case rest =>
          obtain ⟨rfl, rfl⟩ := hcut
          go_upto_if 30 with fail
          go_cut [0, 8, 9] (fun s0 s8 s9 wx => ∃ (A' : Option Addr) (c' : Nat) (l' : List UInt8) (x y : UInt8), s0 = .slice A' l'.length c' ∧ RdB w A' l' ∧ l'.length ≤ c' ∧ c' ≤ ca ∧ l'.length ≤ 64 ∧ l'.length % 2 = 0 ∧ good l' = true ∧
            s8 = .int .u8 ((x.toNat : Nat) : Int) ∧ s9 = .int .u8 ((y.toNat : Nat) : Int) ∧ x.toNat < 16 ∧ y.toNat < 16 ∧ unnibs (pre l.length leaf ++ l) = (16 * x + y) :: unnibs l' ∧ ∃ n, wx = w.drewN n)
          case first =>
            by_cases hodd : l.length % 2 = 1
            · have hodd' : ((l.length : Int) % 2 == 1) = true := by simp; omega
              have h0 : 0 < l.length := by omega
              obtain ⟨b, off, rfl, hc⟩ := ha 0 h0
              rw [Nat.add_zero] at hc
              have HODD := Lib.hid hodd
              clear hodd
              have hb1 : (0 : Int) < (l.length : Int) := by omega
              have hb2 : (1 : Int) ≤ (l.length : Int) := by omega
              have hb3 : (1 : Int) ≤ (ca : Int) := by omega
              have hsl : ∀ W, (Instr.slice 22 (.slice (some ⟨b, off, none⟩) l.length ca) (some (.int .i64 1)) none none).run Try.prog W = .ok (.slice (cutA (some ⟨b, off, none⟩) ca 1) (l.length - 1) (ca - 1)) W := run_slice_from bytesT _ _ _ 1 h0
              go_wp2_with fail
              go_quiet (fail)
              go_wp2
              go_meet
              case rel =>
                have hd : (l.drop 1).length = l.length - 1 := by simp
                refine ⟨cutA (some ⟨b, off, none⟩) ca 1, ca - 1, l.drop 1, flag leaf + 1, l[0], by rw [hd], ha.cut na, by rw [hd]; omega, by omega, by rw [hd]; omega, by rw [hd]; have := HODD.out; omega, ?_, ?_, rfl, by cases leaf <;> decide, ?_, ?_, _, rfl⟩
                · exact good_drop HG.out 1
                · cases leaf <;> exact congrArg (Value.int .u8) (by decide)
                · have := good_get HG.out 0 h0; omega
                · exact pre_odd leaf HODD.out l[0] (List.getElem?_eq_getElem h0)
            · have hodd' : ((l.length : Int) % 2 == 1) = false := by simp; omega
              go_wp2
              go_meet
              case rel => exact ⟨A, ca, l, flag leaf, 0, rfl, ha, na, Nat.le_refl _, by omega, by omega, HG.out, rfl, rfl, by cases leaf <;> decide, by decide, by simp [pre, hodd, unnibs], 0, rfl⟩
          case rest =>
            obtain ⟨A', c', l', x, y, rfl, hr, hc1, hc2, hl1, hl2, hg, rfl, rfl, hx, hy, hu, n, rfl⟩ := hcut
            have hx8 : ((x.toNat : Nat) : Int) < 16 := by omega
            have hy8 : ((y.toNat : Nat) : Int) < 16 := by omega
            have HU := Lib.hid hu
            have HPB : Hid (packB l leaf = (16 * x + y) :: unnibs l') := by show packB l leaf = _; rw [packB, if_pos HG.out]; exact hu
            have HPE : Hid (packE l = 0) := by show packE l = 0; rw [packE, if_pos HG.out]
            clear hu
            have hp := bits_pack x y hx hy
            have HP := Lib.hid hp
            clear hp
            have HO := Lib.hid (show OwnB (((w.drewN n).alloc (.cells #[.int .u8 (bits .or .u8 (((x.toNat : Nat) : Int) * 16) ((y.toNat : Nat) : Int))] 5))) w.heap.size (.slice (some ⟨w.heap.size, 0, none⟩) 1 1) [16 * x + y] from
              OwnB.of (own_lit (w.drewN n) #[.int .u8 (bits .or .u8 (((x.toNat : Nat) : Int) * 16) ((y.toNat : Nat) : Int))] 5 (Nat.le_refl _) (n := 1) (by simp [maxLen]) (by rfl)) (by rw [HP.out]; rfl))
            have hbel0 : Below w.heap.size w ((w.drewN n).alloc (.cells #[.int .u8 (bits .or .u8 (((x.toNat : Nat) : Int) * 16) ((y.toNat : Nat) : Int))] 5)) := (bel_drewN (Below.refl _ _) n).alloc (Nat.le_refl _) _
            have HB0 := Lib.hid hbel0
            clear hbel0
            go_wp2_with fail
            go_loopw [10, 11] (fun v i wr => ∃ m : Nat, 2 * m ≤ l'.length ∧ i = .int .i64 ((2 * m : Nat) : Int) ∧ OwnB wr w.heap.size v ((16 * x + y) :: unnibs (l'.take (2 * m))) ∧ Below w.heap.size w wr) (fun _ i _ => l'.length - (intOf i).toNat)
            case atStart => exact ⟨0, by omega, rfl, HO.out, HB0.out⟩
            case round =>
              obtain ⟨m, hm, rfl, hown, hbel⟩ := hrel
              have HO1 := Lib.hid hown
              by_cases h1 : 2 * m < l'.length
              · have h2 : 2 * m + 1 < l'.length := by omega
                obtain ⟨b, off, rfl, hc0⟩ := hr (2 * m) h1
                obtain ⟨b', off', hbo, hc1⟩ := hr (2 * m + 1) h2
                simp only [Option.some.injEq, Addr.mk.injEq, and_true] at hbo
                obtain ⟨rfl, rfl⟩ := hbo
                have hne : ∀ g, u10.ownBlock = some g → g ≠ b := own_ne hown (World.block_lt_of_cell? w _ hc0)
                rw [← hbel.cell (World.block_lt_of_cell? w _ hc0)] at hc0
                rw [← hbel.cell (World.block_lt_of_cell? w _ hc1)] at hc1
                have hn := World.new_ne wr _ hc0
                have g0 := good_get hg (2 * m) h1
                have g1 := good_get hg (2 * m + 1) h2
                have HP2 := Lib.hid (bits_pack l'[2 * m] l'[2 * m + 1] (by omega) (by omega))
                have h80 : ((l'[2 * m].toNat : Nat) : Int) < 16 := by omega
                have h81 : ((l'[2 * m + 1].toNat : Nat) : Int) < 16 := by omega
                have hul : ((16 * x + y) :: unnibs (l'.take (2 * m))).length ≤ 100 := by
                  have := List.length_take_le (2 * m) l'
                  simp only [List.length_cons, unnibs_length]; omega
                have hi0 : (0 : Int) ≤ 2 * (m : Int) := by omega
                have hi1 : 2 * (m : Int) < (l'.length : Int) := by omega
                have hi2 : 2 * (m : Int) + 1 < (l'.length : Int) := by omega
                have hi3 : (0 : Int) ≤ 2 * (m : Int) + 1 := by omega
                have hs1 : IntKind.i64.wrap (2 * (m : Int) + 1) = 2 * (m : Int) + 1 := IntWalk.i64_in _ (by omega)
                have hs2 : (2 * (m : Int) + 1).toNat = 2 * m + 1 := by omega
                have hs3 : (2 * (m : Int)).toNat = 2 * m := by omega
                have hs4 : IntKind.u8.wrap (((l'[2 * m].toNat : Nat) : Int) * 16) = ((l'[2 * m].toNat : Nat) : Int) * 16 := IntWalk.u8_in _ (by omega)
                clear hown
                go_wp2_with fail
                go_region_held3 (fun w' => w'.cell? ⟨b, off + 2 * m, none⟩ = some (.int .u8 ((l'[2 * m].toNat : Nat) : Int)) ∧ w'.cell? ⟨b, off + (2 * m + 1), none⟩ = some (.int .u8 ((l'[2 * m + 1].toNat : Nat) : Int))) (first | go_keep | exact ⟨ap_cell hap hne (by go_keep), ap_cell hap hne (by go_keep)⟩)
                  ((refine step_ap bytesT (by rfl) (by rfl) (by rfl) (own_below HO1.out (((Below.refl _ _).alloc (Nat.le_refl _) _).drew)) (by rfl) (Src.block (m := 1) (heap_alloc_new _ _) (by rfl)) (by simp [Value.oneCell']) (by simp only [maxLen]; omega) (by omega) (by have := hbel.size; simp; omega) ?_; intro v1 w1 hap))
                clear hs1 hs2 hs3 hs4
                go_wp2
                refine ⟨⟨m + 1, by omega, by go_num, OwnB.of hap.1 ?_, ap_below ((hbel.alloc hbel.size _).drew) hap (by have := hbel.size; simp; omega) (own_ge HO1.out)⟩, by simp [intOf]; omega⟩
                rw [unnibs_two l' m l'[2 * m] l'[2 * m + 1] (List.getElem?_eq_getElem h1) (List.getElem?_eq_getElem h2)]
                rw [HP2.out]
                simp [bv]
              · have hm2 : 2 * m = l'.length := by omega
                have HM := Lib.hid hm2
                have hi1 : ¬ 2 * (m : Int) < (l'.length : Int) := by omega
                clear hown hm2
                go_wp2
                go_ret2
                refine ⟨u10, by rw [HPE.out]; rfl, ?_, hbel⟩
                rw [HPB.out]
                have h := HO1.out
                rw [HM.out, List.take_length] at h
                exact h
end Go.Proofs.Ytdhkhdeblkbojaa
