/- Walks of cairnref01: Nibbles, Bytes. -/
import Derived.Test.YtdhkhdeblkbojaaRef01
namespace Go.Proofs.Ytdhkhdeblkbojaa
open Go.RowKit
attribute [local go_sem ↓] Go.wp_at_zero Go.wp_at_succ

theorem bytesT : SlT Try.prog 22 5 (.int .u8 0) 1 1 := ⟨Try.underlying22, by kernel_rfl, rfl, by decide⟩

/-- the nibbles of bytes -/
def nibs (l : List UInt8) : List UInt8 := l.flatMap fun x => [x / 16, x % 16]
theorem nibs_snoc (l : List UInt8) (x : UInt8) : nibs (l ++ [x]) = nibs l ++ [x / 16, x % 16] := by simp [nibs]
theorem nibs_length (l : List UInt8) : (nibs l).length = 2 * l.length := by
  induction l with
  | nil => rfl
  | cons a r ih => simp [nibs] at ih ⊢; omega
theorem take_snoc (l : List UInt8) (k : Nat) (h : k < l.length) : l.take (k + 1) = l.take k ++ [l[k]] := List.take_succ_eq_append_getElem h

set_option maxHeartbeats 400000 in
theorem nibbles_any (va : Value) (l : List UInt8) (w : World) (ha : SB w va l) (hl : l.length ≤ 1099511627776) :
    Calls Try.prog 52 #[va] w fun e w' => ∃ v, e = .returned v ∧ OwnB w' w.heap.size v (nibs l) ∧ Below w.heap.size w w' := by
  obtain ⟨A, ca, rfl, ha, na, ma, -⟩ := ha
  unfold maxLen at ma
  go_enter Try.func52, Try.ntmps52
  go_wp2
  go_loopw [3, 4] (fun v i wr => ∃ k : Nat, k ≤ l.length ∧ i = .int .i64 k ∧ OwnB wr w.heap.size v (nibs (l.take k)) ∧ Below w.heap.size w wr) (fun _ i _ => l.length - (intOf i).toNat)
  case atStart => exact ⟨0, by omega, rfl, OwnB.nil _ _, Below.refl _ _⟩
  case round =>
    obtain ⟨k, hk, rfl, hown, hbel⟩ := hrel
    by_cases h1 : k < l.length
    · obtain ⟨b, off, rfl, hc0⟩ := ha k h1
      have hc := hc0
      rw [← hbel.cell (World.block_lt_of_cell? w _ hc0)] at hc
      have hne : ∀ g, u3.ownBlock = some g → g ≠ b := own_ne hown (World.block_lt_of_cell? w _ hc0)
      clear hc0
      have hn := World.new_ne wr _ hc
      have hb1 : (k : Int) < (l.length : Int) := by omega
      have hb0 : (0 : Int) ≤ (k : Int) := by omega
      have HO := Lib.hid hown
      have h8 := u8_lt l[k]
      have hnl : (nibs (l.take k)).length ≤ 2199023255552 := by rw [nibs_length]; have := List.length_take_le k l; omega
      clear hown
      go_wp2_with fail
      go_region_held3 (fun w' => w'.cell? ⟨b, off + k, none⟩ = some (.int .u8 ((l[k].toNat : Nat) : Int))) (first | go_keep | exact ap_cell hap hne (by go_keep))
        ((refine step_ap bytesT (by rfl) (by rfl) (by rfl) (own_below HO.out (((Below.refl _ _).alloc (Nat.le_refl _) _).drew)) (by rfl) (Src.block (m := 2) (heap_alloc_new _ _) (by rfl)) (by simp [Value.oneCell']) (by simp only [maxLen]; omega) (by omega) (by have := hbel.size; simp; omega) ?_; intro v1 w1 hap))
      go_wp2
      refine ⟨⟨k + 1, by omega, by go_num, OwnB.of hap.1 ?_, ap_below ((hbel.alloc hbel.size _).drew) hap (by have := hbel.size; simp; omega) (own_ge HO.out)⟩, by simp [intOf]; omega⟩
      rw [take_snoc l k h1, nibs_snoc]
      simp [bv]
      exact ⟨IntWalk.u8_in _ (by omega), Int.tmod_eq_emod_of_nonneg (by omega)⟩
    · go_wp2
      go_ret
      have hkl : k = l.length := by omega
      subst hkl
      exact ⟨_, rfl, by simpa using hown, hbel⟩

/-- bytes of pairs of nibbles -/
def unnibs : List UInt8 → List UInt8
  | a :: b :: r => (16 * a + b) :: unnibs r
  | _ => []
theorem unnibs_two (l : List UInt8) (m : Nat) (x y : UInt8) (hx : l[2 * m]? = some x) (hy : l[2 * m + 1]? = some y) : unnibs (l.take (2 * (m + 1))) = unnibs (l.take (2 * m)) ++ [16 * x + y] := by
  induction m generalizing l with
  | zero =>
    match l, hx, hy with
    | a :: b :: r, hx, hy => simp at hx hy; simp [unnibs, hx, hy]
  | succ m ih =>
    match l, hx, hy with
    | a :: b :: r, hx, hy =>
      have e1 : 2 * (m + 1 + 1) = 2 * (m + 1) + 1 + 1 := by omega
      have e2 : 2 * (m + 1) = 2 * m + 1 + 1 := by omega
      rw [e2] at hx hy
      have := ih r (by simpa using hx) (by simpa using hy)
      rw [e1, List.take_succ_cons, List.take_succ_cons, unnibs, this, e2, List.take_succ_cons, List.take_succ_cons, unnibs]
      simp
    | [a], hx, hy => simp at hy
    | [], hx, hy => simp at hx
theorem unnibs_length (l : List UInt8) : (unnibs l).length = l.length / 2 := by
  induction l using unnibs.induct with
  | case1 a b r ih => simp [unnibs, ih]; omega
  | case2 l h =>
    match l, h with
    | [], _ => rfl
    | [a], _ => simp [unnibs]
    | a :: b :: r, h => exact (h a b r rfl).elim

/-- which nibbles are no bytes -/
def badN (l : List UInt8) : Bool := decide (l ≠ []) && (decide (l.length % 2 = 1) || l.any (fun x => decide (15 < x.toNat)))
def refBytes (l : List UInt8) : List UInt8 × Int := if badN l then ([], 2) else (unnibs l, 0)

theorem badN_at (l : List UInt8) (k : Nat) (h : k < l.length) (h' : 15 < l[k].toNat ∨ l.length % 2 = 1) : refBytes l = ([], 2) := by
  have hb : badN l = true := by
    unfold badN
    have hne : l ≠ [] := by intro e; subst e; simp at h
    simp [hne]
    rcases h' with h' | h'
    · exact .inr ⟨l[k], List.getElem_mem h, h'⟩
    · exact .inl h'
  simp [refBytes, hb]
theorem badN_not (l : List UInt8) (h : ∀ k (hk : k < l.length), l[k].toNat ≤ 15) (h' : l.length = 0 ∨ l.length % 2 = 0) : refBytes l = (unnibs l, 0) := by
  have hb : badN l = false := by
    unfold badN
    simp
    intro hne
    refine ⟨by rcases h' with h' | h' <;> omega, fun x hx => ?_⟩
    obtain ⟨k, hk, rfl⟩ := List.mem_iff_getElem.1 hx
    exact h k hk
  simp [refBytes, hb]

set_option maxHeartbeats 400000 in
theorem bytes_any (va : Value) (l : List UInt8) (w : World) (ha : SB w va l) (hl : l.length ≤ 1099511627776) :
    Calls Try.prog 50 #[va] w fun e w' => ∃ v, e = .returned (.tuple #[v, .int .i64 (refBytes l).2]) ∧ OwnB w' w.heap.size v (refBytes l).1 ∧ Below w.heap.size w w' := by
  obtain ⟨A, ca, rfl, ha, na, ma, -⟩ := ha
  unfold maxLen at ma
  go_enter Try.func50, Try.ntmps50
  go_wp2
  go_loopw [4, 5] (fun v i wr => ∃ k : Nat, k ≤ l.length ∧ i = .int .i64 k ∧ (∀ j (hj : j < l.length), j < k → l[j].toNat ≤ 15) ∧ (0 < k → l.length % 2 = 0) ∧ OwnB wr w.heap.size v (unnibs (l.take (2 * (k / 2)))) ∧ Below w.heap.size w wr) (fun _ i _ => l.length - (intOf i).toNat)
  case atStart => exact ⟨0, by omega, rfl, fun j _ h => by omega, fun h => by omega, OwnB.nil _ _, Below.refl _ _⟩
  case round =>
    obtain ⟨k, hk, rfl, hle, hev, hown, hbel⟩ := hrel
    have HL := Lib.hid hle
    have HE := Lib.hid hev
    have HO := Lib.hid hown
    by_cases h1 : k < l.length
    · obtain ⟨b, off, rfl, hc0⟩ := ha k h1
      have hc := hc0
      rw [← hbel.cell (World.block_lt_of_cell? w _ hc0)] at hc
      have hne : ∀ g, u4.ownBlock = some g → g ≠ b := own_ne hown (World.block_lt_of_cell? w _ hc0)
      have hn := World.new_ne wr _ hc
      have hb1 : (k : Int) < (l.length : Int) := by omega
      have hb0 : (0 : Int) ≤ (k : Int) := by omega
      have h8 := u8_lt l[k]
      clear hown hle hev
      by_cases h2 : 15 < l[k].toNat
      · have hf := Lib.hid (badN_at l k h1 (.inl h2))
        have h2' : (15 : Int) < ((l[k].toNat : Nat) : Int) := by omega
        clear hc0
        go_wp2
        go_ret2
        refine ⟨.slice none 0 0, ?_, ?_, hbel⟩
        · rw [hf.out]; rfl
        · rw [hf.out]; exact OwnB.nil _ _
      · have h2' : ¬ (15 : Int) < ((l[k].toNat : Nat) : Int) := by omega
        by_cases h3 : l.length % 2 = 1
        · have hf := Lib.hid (badN_at l k h1 (.inr h3))
          have h3' : ((l.length : Int) % 2 == 1) = true := by simp; omega
          clear hc0 h3
          go_wp2
          go_ret2
          refine ⟨.slice none 0 0, ?_, ?_, hbel⟩
          · rw [hf.out]; rfl
          · rw [hf.out]; exact OwnB.nil _ _
        · have h3' : ((l.length : Int) % 2 == 1) = false := by simp; omega
          have H3 := Lib.hid (show l.length % 2 = 0 by omega)
          clear h3
          have hle' : Hid (∀ j (hj : j < l.length), j < k + 1 → l[j].toNat ≤ 15) := fun j hj hjk => by
            by_cases hjk' : j < k
            · exact HL.out j hj hjk'
            · have : j = k := by omega
              subst this
              omega
          by_cases h4 : k % 2 = 1
          · have h4' : ((k : Int) % 2 == 1) = true := by simp; omega
            have H4 := Lib.hid h4
            have hk1 : k - 1 < l.length := by omega
            obtain ⟨b', off', hbo, hc1⟩ := (ha.below hbel) (k - 1) hk1
            simp only [Option.some.injEq, Addr.mk.injEq, and_true] at hbo
            obtain ⟨rfl, rfl⟩ := hbo
            have hk2 : (1 : Int) ≤ (k : Int) := by omega
            have h81 := u8_lt l[k - 1]
            have h82 : ¬ (15 : Int) < ((l[k - 1].toNat : Nat) : Int) := by have := HL.out (k - 1) hk1 (by omega); omega
            have hnl : (unnibs (l.take (2 * (k / 2)))).length ≤ 1099511627776 := by rw [unnibs_length]; have := List.length_take_le (2 * (k / 2)) l; omega
            have hs3 : (k : Int) - 1 < (l.length : Int) := by omega
            have hs2 : ((k : Int) - 1).toNat = k - 1 := by omega
            have hs1 : IntKind.i64.wrap ((k : Int) - 1) = (k : Int) - 1 := IntWalk.i64_in _ (by omega)
            have hsum : IntKind.u8.wrap (16 * ((l[k - 1].toNat : Nat) : Int)) = 16 * ((l[k - 1].toNat : Nat) : Int) := IntWalk.u8_in _ (by omega)
            clear hc0 h4
            go_wp2_with fail
            go_region_held3 (fun w' => w'.cell? ⟨b, off + k, none⟩ = some (.int .u8 ((l[k].toNat : Nat) : Int)) ∧ w'.cell? ⟨b, off + (k - 1), none⟩ = some (.int .u8 ((l[k - 1].toNat : Nat) : Int))) (first | go_keep | exact ⟨ap_cell hap hne (by go_keep), ap_cell hap hne (by go_keep)⟩)
              ((refine step_ap bytesT (by rfl) (by rfl) (by rfl) (own_below HO.out (((Below.refl _ _).alloc (Nat.le_refl _) _).drew)) (by rfl) (Src.block (m := 1) (heap_alloc_new _ _) (by rfl)) (by simp [Value.oneCell']) (by simp only [maxLen]; omega) (by omega) (by have := hbel.size; simp; omega) ?_; intro v1 w1 hap))
            go_wp2
            clear hsum hs1 hs2
            refine ⟨⟨k + 1, by omega, by go_num, hle', fun _ => H3.out, OwnB.of hap.1 ?_, ap_below ((hbel.alloc hbel.size _).drew) hap (by have := hbel.size; simp; omega) (own_ge HO.out)⟩, by simp [intOf]; omega⟩
            obtain ⟨m, rfl⟩ : ∃ m, k = 2 * m + 1 := ⟨k / 2, by have := H4.out; omega⟩
            have e1 : (2 * m + 1 + 1) / 2 = m + 1 := by omega
            have e2 : (2 * m + 1) / 2 = m := by omega
            rw [e1, e2, unnibs_two l m l[2 * m + 1 - 1] l[2 * m + 1] (by rw [List.getElem?_eq_getElem (by omega)]; simp) (List.getElem?_eq_getElem h1)]
            simp [bv]
            exact IntKind.wrap_u8 _
          · have h4' : ((k : Int) % 2 == 1) = false := by simp; omega
            clear hc0
            go_wp2
            refine ⟨⟨k + 1, by omega, by go_num, hle', fun _ => H3.out, ?_, hbel⟩, by simp [intOf]; omega⟩
            have e1 : (k + 1) / 2 = k / 2 := by omega
            rw [e1]
            exact HO.out
    · have hkl : k = l.length := by omega
      subst hkl
      have hev' : Hid (l.length = 0 ∨ l.length % 2 = 0) := by show _ ∨ _; omega
      have hf := Lib.hid (badN_not l (fun j hj => hle j hj hj) hev'.out)
      clear hown hle hev
      go_wp2
      go_ret2
      refine ⟨u4, ?_, ?_, hbel⟩
      · rw [hf.out]; rfl
      · rw [hf.out]
        have e := List.take_of_length_le (show l.length ≤ 2 * (l.length / 2) by have := hev'.out; omega)
        have hO := HO.out
        rw [e] at hO
        exact hO
end Go.Proofs.Ytdhkhdeblkbojaa
