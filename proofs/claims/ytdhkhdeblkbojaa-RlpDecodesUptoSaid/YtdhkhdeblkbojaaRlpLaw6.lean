/- Plain laws of the form: what is cut, what stands behind. -/
import Derived.Test.YtdhkhdeblkbojaaRlpLaw5
namespace Go.Proofs.Ytdhkhdeblkbojaa

theorem read_long {x : It} {f r : List UInt8} (h : encR x = (f, 0)) (hl : (f ++ r).length ≤ 1048576) : readR (f ++ r) = .ok x f.length := by
  obtain ⟨h1, h2, h3, rfl⟩ := encR_ok h
  rw [readR, if_neg (by omega)]
  have := dec_formI x (2 * (formI x ++ r).length + 1) (formI x ++ r) r 0 (formI x ++ r).length 0 h2 h1 (by omega) (by simp at hl; omega) (by simp) (by simp) (by omega)
  simpa using this
theorem dec_long {x : It} {f r t : List UInt8} (h : encR x = (f, 0)) (hr : 1 ≤ r.length + t.length) (hl : (f ++ r ++ t).length ≤ 1048576) : decR (f ++ r ++ t) = .bad f.length 51 := by
  rw [List.append_assoc] at hl ⊢
  rw [decR, read_long h hl]
  simp only
  rw [if_pos (by simp only [List.length_append]; omega)]
theorem cut_hdr {f m n : Nat} {base : UInt8} {body : List UInt8} (hbase : base = 128 ∨ base = 192) (hm : m ≤ 1048576) (hb : body.length = m) (hn : n < (headB m base ++ body).length) (hf : 1 ≤ f) :
    decI f ((headB m base ++ body).take n) 0 n 0 = .bad 0 50 := by
  obtain ⟨f, rfl⟩ : ∃ g, f = g + 1 := ⟨f - 1, by omega⟩
  by_cases h0 : n = 0
  · subst h0; rw [decI, if_pos rfl]
  simp only [List.length_append] at hn
  by_cases hh : n < (headB m base).length
  · have hk := beB_len 3 m (by omega)
    have h56 : ¬ m < 56 := fun h => by rw [show headB m base = [base + UInt8.ofNat m] from if_pos h] at hh; simp at hh; omega
    have e1 : headB m base = (base + 55 + UInt8.ofNat (beB m).length) :: beB m := if_neg h56
    have hk1 := beB_ne m (by omega)
    have e2 : ((headB m base ++ body).take n).getD 0 0 = base + 55 + UInt8.ofNat (beB m).length := by
      rw [e1]
      obtain ⟨n, rfl⟩ : ∃ k, n = k + 1 := ⟨n - 1, by omega⟩
      rfl
    rw [e1] at hh
    simp at hh
    have e3 : (((headB m base ++ body).take n).getD 0 0).toNat = base.toNat + 55 + (beB m).length := by
      rw [e2]
      rcases hbase with rfl | rfl <;> simp [UInt8.toNat_add] <;> omega
    have hbn : base.toNat % 64 = 0 ∧ 128 ≤ base.toNat := by rcases hbase with rfl | rfl <;> decide
    rw [decI, if_neg (by omega), if_neg (by rw [e3]; omega), if_neg (by omega)]
    have hv : (((headB m base ++ body).take n).getD 0 0).toNat % 64 = 55 + (beB m).length := by rw [e3]; omega
    have hN : headN ((headB m base ++ body).take n) 0 n = .bad 0 50 := by
      unfold headN
      rw [hv, if_neg (by omega), if_pos (by omega)]
    rw [hN]
  · have hb' : ((headB m base ++ body).take n).drop 0 = headB m base ++ body.take (n - (headB m base).length) := by
      rw [List.drop_zero, List.take_append, List.take_of_length_le (by omega)]
    obtain ⟨h1, h2⟩ := headN_form hbase hm hb' (by omega : 0 + (headB m base).length ≤ n)
    have h3 : ¬ (((headB m base ++ body).take n).getD 0 0).toNat < 128 := by split at h2 <;> omega
    rw [decI, if_neg (by omega), if_neg h3, if_neg (by omega), h1]
    simp only
    rw [if_pos (by omega)]
theorem dec_cut {x : It} {f : List UInt8} {n : Nat} (hw : wtI x ≤ 1099511627776) (h : encR x = (f, 0)) (hn : n < f.length) : decR (f.take n) = .bad 0 50 := by
  have hl := (dec_enc hw h).2.1
  obtain ⟨h1, h2, h3, rfl⟩ := encR_ok h
  have hlen : ((formI x).take n).length = n := by rw [List.length_take]; omega
  rw [decR, readR, if_neg (by omega), hlen]
  have key : decI (2 * n + 1) ((formI x).take n) 0 n 0 = .bad 0 50 := by
    obtain ⟨l, b, xs⟩ := x
    rw [formI] at hn hl ⊢
    cases l with
    | true =>
      simp only [if_true] at hn hl ⊢
      exact cut_hdr (.inr rfl) (by simp at hl; omega) rfl hn (by omega)
    | false =>
      simp only [Bool.false_eq_true, if_false] at hn hl ⊢
      split
      · rename_i hs
        rw [if_pos hs] at hn
        have : n = 0 := by omega
        subst this
        rw [decI, if_pos rfl]
      · rename_i hs
        rw [if_neg hs] at hn hl
        exact cut_hdr (.inl rfl) (by simp at hl; omega) rfl hn (by omega)
  rw [key]
theorem mod_mod (a : Int) {L : Nat} (hL : 1 ≤ L) (hL2 : L ≤ 1048576) : ∃ n : Nat, (Go.RowKit.wrap64 (a.tmod (L : Int) + (L : Int))).tmod (L : Int) = (n : Int) ∧ (n : Int) < (L : Int) := by
  have h1 := Int.lt_tmod_of_pos a (show (0 : Int) < (L : Int) by omega)
  have h2 := Int.tmod_lt_of_pos a (show (0 : Int) < (L : Int) by omega)
  have hw : 0 ≤ Go.RowKit.wrap64 (a.tmod (L : Int) + (L : Int)) := by unfold Go.RowKit.wrap64; omega
  have h3 := Int.tmod_nonneg (L : Int) hw
  exact ⟨((Go.RowKit.wrap64 (a.tmod (L : Int) + (L : Int))).tmod (L : Int)).toNat, by rw [Int.toNat_of_nonneg h3], by rw [Int.toNat_of_nonneg h3]; exact Int.tmod_lt_of_pos _ (by omega)⟩
end Go.Proofs.Ytdhkhdeblkbojaa
