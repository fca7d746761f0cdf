/- cairnlaw05.awake. -/
import Derived.Test.YtdhkhdeblkbojaaRlpSame
import Derived.Lib.SlBytesConst
import Derived.Lib.SmallJoins
namespace Go.Proofs.Ytdhkhdeblkbojaa
open Go.RowKit
attribute [local go_sem ↓] Go.wp_at_zero Go.wp_at_succ

def catdog : It := .mk true [] [.mk false [99, 97, 116] [], .mk false [100, 111, 103] []]
def catdogB : List UInt8 := [200, 131, 99, 97, 116, 131, 100, 111, 103]
theorem enc_catdog : encR catdog = (catdogB, 0) := by
  simp [encR, catdog, catdogB, deepI, deepL, mayI, mayL, sizeI, sizeL, formI, formL, headB]
theorem dec_catdog : decR catdogB = .ok catdog 9 := by kernel_rfl

theorem RdI.sb {w : World} {T : Nat → Prop} {v0 v1 v2 : Value} {x : It} {sv : List Value} (h : RdI w T v0 v1 v2 x sv) : SB w v1 x.b := by
  cases h with
  | mk l v bs A c E h1 => exact h1
theorem RdI.flag {w : World} {T : Nat → Prop} {v0 v1 v2 : Value} {x : It} {sv : List Value} (h : RdI w T v0 v1 v2 x sv) : v0 = .bool x.l := by
  cases h with
  | mk l v bs A c E h1 => rfl
theorem RdI.items {w : World} {T : Nat → Prop} {v0 v1 v2 : Value} {x : It} {sv : List Value} (h : RdI w T v0 v1 v2 x sv) :
    ∃ (A : Option Addr) (c : Nat) (E : List Ent), v2 = .slice A E.length c ∧ E.length ≤ c ∧ x.xs = E.map (·.x) ∧ Src w 3 (.slice A E.length c) E.length (E.flatMap Ent.cells) ∧ ∀ e ∈ E, RdI w T e.v0 e.v1 e.v2 e.x e.sv := by
  cases h with
  | mk l v bs A c E h1 h1' h2 h3 h4 h4' h5 h6 => exact ⟨A, c, E, rfl, h2, rfl, h5, h6⟩
theorem two_of {E : List Ent} {p q : It} (h : [p, q] = E.map (·.x)) : ∃ a d, E = [a, d] ∧ a.x = p ∧ d.x = q := by
  cases E with
  | nil => cases h
  | cons a r =>
    cases r with
    | nil => cases h
    | cons d r =>
      cases r with
      | nil =>
        simp at h
        exact ⟨a, d, rfl, h.1.symm, h.2.symm⟩
      | cons e r => simp at h
/-- a list of two strings, read -/
theorem catdog_read {w : World} {T : Nat → Prop} {v0 v1 v2 : Value} {sv : List Value} (h : RdI w T v0 v1 v2 catdog sv) :
    ∃ b off c A1 c1 u0 u2, v0 = .bool true ∧ v2 = .slice (some ⟨b, off, none⟩) 2 c ∧ 2 ≤ c ∧ w.cell? ⟨b, off + 3, none⟩ = some u0 ∧ w.cell? ⟨b, off + 3 + 1, none⟩ = some (.slice A1 3 c1) ∧ w.cell? ⟨b, off + 3 + 2, none⟩ = some u2 ∧ RdB w A1 [100, 111, 103] := by
  have hf := h.flag
  obtain ⟨A, c, E, rfl, hc, hx, h5, h6⟩ := h.items
  obtain ⟨a, d, rfl, ha, hd⟩ := two_of hx
  obtain ⟨b, off, rfl, k0, k1, k2⟩ := ent_cell h5 (i := 1) (by simp)
  have hs := (h6 d (by simp)).sb
  rw [hd] at hs
  obtain ⟨A1, c1, e, hr, -⟩ := hs
  simp only [List.getElem_cons_succ, List.getElem_cons_zero, Nat.one_mul] at k0 k1 k2
  rw [e] at k1
  exact ⟨b, off, c, A1, c1, _, _, hf, rfl, hc, k0, k1, k2, hr⟩

theorem sb3 {w : World} {g : Nat} {x y z : UInt8} {fr : Nat × Nat} (h : w.heap[g]? = some (.cells #[bv x, bv y, bv z] 5 fr)) : SB w (.slice (some ⟨g, 0, none⟩) 3 3) [x, y, z] := by
  refine ⟨_, _, rfl, fun k hk => ⟨g, 0, rfl, ?_⟩, Nat.le_refl _, by simp [maxLen], fun e => by cases e⟩
  rw [cell_of_row w g (0 + k) _ _ _ h]
  match k, hk with
  | 0, _ => rfl
  | 1, _ => rfl
  | 2, _ => rfl
theorem catdog_laid (w : World) (fr1 fr2 fr3 : Nat × Nat) (t : TypeId) {W : World} (hW : W = ((w.alloc (.cells #[bv 99, bv 97, bv 116] 5 fr1)).alloc (.cells #[bv 100, bv 111, bv 103] 5 fr2)).alloc (.cells #[.bool false, .slice (some ⟨w.heap.size, 0, none⟩) 3 3, .slice none 0 0, .bool false, .slice (some ⟨w.heap.size + 1, 0, none⟩) 3 3, .slice none 0 0] t fr3)) :
    ∃ sv, RdI W (fun _ => True) (.bool true) (.slice none 0 0) (.slice (some ⟨w.heap.size + 2, 0, none⟩) 2 2) catdog sv := by
  subst hW
  obtain ⟨-, h1, h2, h3, -⟩ := al3 w (.cells #[bv 99, bv 97, bv 116] 5 fr1) (.cells #[bv 100, bv 111, bv 103] 5 fr2) (.cells #[.bool false, .slice (some ⟨w.heap.size, 0, none⟩) 3 3, .slice none 0 0, .bool false, .slice (some ⟨w.heap.size + 1, 0, none⟩) 3 3, .slice none 0 0] t fr3)
  have l1 := RdI.leaf (T := fun _ => True) false (sb3 h1) (fun _ _ _ _ => trivial)
  have l2 := RdI.leaf (T := fun _ => True) false (sb3 h2) (fun _ _ _ _ => trivial)
  refine Exists.intro _ (RdI.mk (w := (((w.alloc (.cells #[bv 99, bv 97, bv 116] 5 fr1)).alloc (.cells #[bv 100, bv 111, bv 103] 5 fr2)).alloc (.cells #[.bool false, .slice (some ⟨w.heap.size, 0, none⟩) 3 3, .slice none 0 0, .bool false, .slice (some ⟨w.heap.size + 1, 0, none⟩) 3 3, .slice none 0 0] t fr3))) (T := fun _ => True) true (.slice none 0 0) [] (some ⟨w.heap.size + 2, 0, none⟩) 2 [⟨.bool false, .slice (some ⟨w.heap.size, 0, none⟩) 3 3, .slice none 0 0, .mk false [99, 97, 116] [], [.slice (some ⟨w.heap.size, 0, none⟩) 3 3]⟩, ⟨.bool false, .slice (some ⟨w.heap.size + 1, 0, none⟩) 3 3, .slice none 0 0, .mk false [100, 111, 103] [], [.slice (some ⟨w.heap.size + 1, 0, none⟩) 3 3]⟩]
    (OwnB.nil _ 0).sb (fun _ _ _ e => (by cases e)) (Nat.le_refl _) (by simp [maxLen]) (fun e => (by cases e)) (fun _ _ => trivial) (Src.block (m := 2) h3 rfl) (fun e he => ?_))
  simp only [List.mem_cons, List.not_mem_nil, or_false] at he
  rcases he with rfl | rfl
  · exact l1
  · exact l2

set_option maxRecDepth 100000 in
set_option maxHeartbeats 2000000 in
theorem awake_any (w : World) : Calls Try.prog 24 #[] w fun e w' => e = .returned (.bool true) ∧ Below w.heap.size w w' := by
  have kc := Lib.run_convert_bytes_const (P := Try.prog) w 22 5 #[.int .u8 99, .int .u8 97, .int .u8 116] 3 3 Try.underlying22 Try.underlying5
  have kc2 := Joins.run_convert_bytes_const_at (P := Try.prog) (w.alloc (.cells #[.int .u8 99, .int .u8 97, .int .u8 116] 5 (3, 4))) 22 5 #[.int .u8 100, .int .u8 111, .int .u8 103] 3 3 (w.heap.size + 1) (by simp) Try.underlying22 Try.underlying5
  go_enter Try.func24, Try.ntmps24
  go_wp2_with fail
  clear kc kc2
  obtain ⟨hal, -, -, -, -⟩ := al3 w (.cells #[bv 99, bv 97, bv 116] 5 (3, 4)) (.cells #[bv 100, bv 111, bv 103] 5 (3, 4)) (.cells #[.bool false, .slice (some ⟨w.heap.size, 0, none⟩) 3 3, .slice none 0 0, .bool false, .slice (some ⟨w.heap.size + 1, 0, none⟩) 3 3, .slice none 0 0] 46)
  obtain ⟨sv, hrd⟩ := catdog_laid w (3, 4) (3, 4) (0, 0) 46 rfl
  have HAL := Lib.hid hal
  have hE := encode_any hrd (by simp [catdog, wtI, wtL])
  rw [enc_catdog] at hE
  clear hal hrd
  refine hE.mono ?_
  rintro en w1 ⟨v, rfl, ho, hb1⟩
  have HB1 := Lib.hid (bel_trans HAL.out hb1)
  obtain ⟨A1, c1, rfl, -⟩ := ho.form
  have HO := Lib.hid ho
  clear hE ho hb1
  have hlit : OwnB (w1.alloc (.cells #[.int .u8 200, .int .u8 131, .int .u8 99, .int .u8 97, .int .u8 116, .int .u8 131, .int .u8 100, .int .u8 111, .int .u8 103] 5)) w1.heap.size (.slice (some ⟨w1.heap.size, 0, none⟩) 9 9) catdogB := OwnB.of (own_lit w1 _ 5 (size := 1) (n := 9) (Nat.le_refl _) (by simp [maxLen]) (by rfl)) (by rfl)
  have hD := decode_any _ catdogB _ hlit.sb (by simp [catdogB])
  rw [dec_catdog] at hD
  have HD := Lib.hid hD
  have hb2 := bel_trans HB1.out ((Below.refl w1.heap.size w1).alloc (Nat.le_refl _) (.cells #[.int .u8 200, .int .u8 131, .int .u8 99, .int .u8 97, .int .u8 116, .int .u8 131, .int .u8 100, .int .u8 111, .int .u8 103] 5))
  have HB2 := Lib.hid hb2
  have hos := HO.out.below ((Below.refl w1.heap.size w1).alloc (Nat.le_refl _) (.cells #[.int .u8 200, .int .u8 131, .int .u8 99, .int .u8 97, .int .u8 116, .int .u8 131, .int .u8 100, .int .u8 111, .int .u8 103] 5))
  have HOs := Lib.hid hos
  clear hD hlit hb2 hos
  go_wp2_with fail
  refine HD.out.mono ?_
  rintro en w2 ⟨v0, v1, v2, sv2, rfl, hrd, -, hb3⟩
  obtain ⟨b, off, c, A5, c5, u0, u2, rfl, rfl, h2c, k0, k1, k2, hr⟩ := catdog_read hrd
  obtain ⟨A6, c6, rfl, -⟩ := hrd.sb
  have HB3 := Lib.hid (bel_trans HB2.out hb3)
  have HO3 := Lib.hid (HOs.out.below hb3)
  clear hrd hb3 HD
  generalize hcs : catdog.b.length = z0
  have hal2 : Below w2.heap.size w2 (w2.alloc (.cells #[.bool true, .slice A6 z0 c6, .slice (some ⟨b, off, none⟩) 2 c] 46)) := (Below.refl _ _).alloc (Nat.le_refl _) _
  have q0 := cell_later hal2 k0
  have q1 := cell_later hal2 k1
  have q2 := cell_later hal2 k2
  obtain ⟨A7, c7, e7, hr7, -⟩ := (HO3.out.below hal2).sb
  injection e7 with e1 e2 e3
  subst e1 e3
  have hcv1 : (convert 22 9 (.slice A1 catdogB.length c1)).run Try.prog (w2.alloc (.cells #[.bool true, .slice A6 z0 c6, .slice (some ⟨b, off, none⟩) 2 c] 46)) = .ok (.string ⟨#[200, 131, 99, 97, 116, 131, 100, 111, 103]⟩) (w2.alloc (.cells #[.bool true, .slice A6 z0 c6, .slice (some ⟨b, off, none⟩) 2 c] 46)) := conv_any c1 hr7
  have hcv2 : (convert 22 9 (.slice A5 3 c5)).run Try.prog (w2.alloc (.cells #[.bool true, .slice A6 z0 c6, .slice (some ⟨b, off, none⟩) 2 c] 46)) = .ok (.string ⟨#[100, 111, 103]⟩) (w2.alloc (.cells #[.bool true, .slice A6 z0 c6, .slice (some ⟨b, off, none⟩) 2 c] 46)) := conv_any c5 (hr.below hal2)
  have hal3 := bel_trans HB3.out hal2
  have HAL3 := Lib.hid hal3
  clear hal2 hal3
  clear hr7 hr e2 hcs
  go_wp2_with fail
  go_ret
  exact ⟨rfl, HAL3.out⟩
end Go.Proofs.Ytdhkhdeblkbojaa
