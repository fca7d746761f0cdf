/- The proof's bytes in plain words: lists of strings, their form, the limits. What a proof's bytes tell, by the strict reader and by the loose one; that the two agree. No program in sight. Lists of strings in memory; cairnref15.header, proof.may, proof.packed, proof.Pack. proof.packed, proof.Pack. cairnref15.Pack. -/
import Derived.Test.YtdhkhdeblkbojaaRlpLaw3
import Derived.Test.YtdhkhdeblkbojaaRlpLaw5
import Derived.Test.YtdhkhdeblkbojaaRefNum
import Derived.Test.YtdhkhdeblkbojaaGrowC
namespace Go.Proofs.Ytdhkhdeblkbojaa

def leafI (l : List UInt8) : It := .mk false l []
def strB (l : List UInt8) : List UInt8 := formI (leafI l)
def bodyB (ls : List (List UInt8)) : List UInt8 := ls.flatMap strB
def listB (ls : List (List UInt8)) : List UInt8 := headB (bodyB ls).length 192 ++ bodyB ls
def totL (ls : List (List UInt8)) : Nat := (ls.map List.length).sum
def okS (l : List UInt8) : Bool := decide (1 ≤ l.length) && decide (l.length ≤ 1024)
def packR (ls : List (List UInt8)) : List UInt8 × Int := if ls.all okS = true ∧ totL ls ≤ 131072 ∧ (listB ls).length ≤ 131072 then (listB ls, 0) else ([], 2)
def listI (ls : List (List UInt8)) : It := .mk true [] (ls.map leafI)

theorem strB_eq (l : List UInt8) : strB l = if l.length = 1 ∧ (l.getD 0 0).toNat < 128 then l else headB l.length 128 ++ l := by
  unfold strB leafI
  rw [formI]
  rfl
theorem formL_map (ls : List (List UInt8)) : formL (ls.map leafI) = bodyB ls := by
  induction ls with
  | nil => rw [List.map_nil, formL]; rfl
  | cons l r ih => rw [List.map_cons, formL, ih]; rfl
theorem formI_list (ls : List (List UInt8)) : formI (listI ls) = listB ls := by
  unfold listI
  rw [formI, formL_map]
  rfl
theorem wt_list (ls : List (List UInt8)) : wtI (listI ls) = 16 + 16 * ls.length + totL ls := by
  unfold listI
  rw [wtI]
  have : wtL (ls.map leafI) = 16 * ls.length + totL ls := by
    induction ls with
    | nil => simp [wtL, totL]
    | cons l r ih =>
      rw [List.map_cons, wtL, ih]
      simp only [leafI, wtI, wtL, totL, List.map_cons, List.sum_cons, List.length_cons]
      omega
  rw [this]
  simp
  omega
theorem head_len {n : Nat} (b : UInt8) (h : n ≤ 1024) : (headB n b).length ≤ 3 := by
  unfold headB
  split
  · simp
  · have := beB_len 2 n (by omega)
    simp
    omega
theorem strB_len {l : List UInt8} (h : l.length ≤ 1024) : (strB l).length ≤ l.length + 3 := by
  rw [strB_eq]
  split
  · omega
  · have := head_len 128 h
    simp
    omega
theorem body_len : ∀ {ls : List (List UInt8)}, ls.all okS = true → (bodyB ls).length ≤ totL ls + 3 * ls.length ∧ ls.length ≤ totL ls
  | [], _ => by simp [bodyB, totL]
  | l :: r, h => by
    simp only [List.all_cons, Bool.and_eq_true, okS, decide_eq_true_eq] at h
    have h1 := body_len (ls := r) (by simpa [okS] using h.2)
    have h2 := strB_len h.1.2
    simp only [bodyB, List.flatMap_cons, List.length_append, totL, List.map_cons, List.sum_cons, List.length_cons] at h1 ⊢
    omega
theorem deep_leafs (ls : List (List UInt8)) (m : Nat) : deepL (ls.map leafI) m = false := by
  induction ls with
  | nil => rw [List.map_nil, deepL]
  | cons l r ih => rw [List.map_cons, deepL, ih]; simp [leafI, deepI]
theorem may_leafs (ls : List (List UInt8)) : mayL (ls.map leafI) = true := by
  induction ls with
  | nil => rw [List.map_nil, mayL]
  | cons l r ih => rw [List.map_cons, mayL, ih]; simp [leafI, mayI]
theorem listB_le {ls : List (List UInt8)} (h : ls.all okS = true) (ht : totL ls ≤ 131072) : (listB ls).length ≤ 1048576 := by
  have h1 := body_len h
  have h2 : (headB (bodyB ls).length 192).length ≤ 9 := by
    unfold headB
    split
    · simp
    · have := beB_len 8 (bodyB ls).length (by omega)
      simp
      omega
  unfold listB
  rw [List.length_append]
  omega
theorem enc_list {ls : List (List UInt8)} (h : ls.all okS = true) (ht : totL ls ≤ 131072) : encR (listI ls) = (listB ls, 0) := by
  have hl := listB_le h ht
  have hd : deepI (listI ls) 80 = false := by
    unfold listI
    rw [deepI, deep_leafs]
    rfl
  have hm : mayI (listI ls) = true := by
    unfold listI
    rw [mayI, may_leafs]
    rfl
  have hs := size_form (listI ls) (by rw [formI_list]; exact hl)
  unfold encR
  rw [hd, hm, hs, formI_list]
  simp
  omega
theorem packR_bad {ls : List (List UInt8)} (h : ls.all okS = true → totL ls ≤ 131072 → ¬ (listB ls).length ≤ 131072) : packR ls = ([], 2) := by
  unfold packR
  rw [if_neg]
  rintro ⟨h1, h2, h3⟩
  exact h h1 h2 h3
theorem packR_ok {ls : List (List UInt8)} (h1 : ls.all okS = true) (h2 : totL ls ≤ 131072) (h3 : (listB ls).length ≤ 131072) : packR ls = (listB ls, 0) := if_pos ⟨h1, h2, h3⟩
theorem take_ok {ls : List (List UInt8)} {i : Nat} (hi : i < ls.length) : ((ls.take (i + 1)).all okS = true ↔ (ls.take i).all okS = true ∧ okS ls[i] = true) ∧ totL (ls.take (i + 1)) = totL (ls.take i) + ls[i].length ∧ bodyB (ls.take (i + 1)) = bodyB (ls.take i) ++ strB ls[i] := by
  have e : ls.take (i + 1) = ls.take i ++ [ls[i]] := (List.take_append_getElem hi).symm
  rw [e]
  generalize ls.take i = p
  generalize ls[i] = x
  refine ⟨by rw [List.all_append, Bool.and_eq_true]; simp, by simp [totL], by simp [bodyB]⟩
theorem tot_take (ls : List (List UInt8)) (i : Nat) : totL (ls.take i) ≤ totL ls := by
  conv => rhs; rw [← List.take_append_drop i ls]
  simp only [totL, List.map_append, List.sum_append]
  omega
theorem all_take {ls : List (List UInt8)} (h : ls.all okS = true) (i : Nat) : (ls.take i).all okS = true := by
  rw [List.all_eq_true] at h ⊢
  exact fun x hx => h x (List.mem_of_mem_take hx)
theorem tot_len {ls : List (List UInt8)} {l : List UInt8} (h : l ∈ ls) : l.length ≤ totL ls := by
  induction ls with
  | nil => simp at h
  | cons a r ih =>
    simp only [totL, List.map_cons, List.sum_cons] at ih ⊢
    rcases List.mem_cons.1 h with rfl | h
    · omega
    · have := ih h; omega
end Go.Proofs.Ytdhkhdeblkbojaa
namespace Go.Proofs.Ytdhkhdeblkbojaa

def unpR (b : List UInt8) : List (List UInt8) × Int :=
  if 131072 < b.length then ([], 160) else match decR b with
    | .ok x _ => if x.l = true ∧ x.xs.all (fun y => !y.l && okS y.b) = true then (x.xs.map (·.b), 0) else ([], 160)
    | .bad _ _ => ([], 160)
def spanN (b : List UInt8) : Nat → Nat → Nat → Option Nat
  | 0, _, n => some n
  | r + 1, i, n => if b.length ≤ i ∨ 131072 < n then none else spanN b r (i + 1) (n * 256 + (b.getD i 0).toNat)
def spanR (b : List UInt8) (list : Bool) : Nat × Nat × Bool :=
  if b = [] ∨ decide (192 ≤ (b.getD 0 0).toNat) ≠ list then (0, 0, false)
  else if (b.getD 0 0).toNat < 128 then (0, 1, true)
  else if (b.getD 0 0).toNat % 64 < 56 then (1, 1 + (b.getD 0 0).toNat % 64, decide (1 + (b.getD 0 0).toNat % 64 ≤ b.length))
  else match spanN b ((b.getD 0 0).toNat % 64 - 55) 1 0 with
    | none => (0, 0, false)
    | some n => ((b.getD 0 0).toNat % 64 - 54, (b.getD 0 0).toNat % 64 - 54 + n, decide ((b.getD 0 0).toNat % 64 - 54 + n ≤ b.length))
def looseL (b : List UInt8) : Nat → Nat → Nat → List (List UInt8) → Option (List (List UInt8))
  | 0, _, _, _ => none
  | f + 1, p, q, acc => if q ≤ p then some acc else
    match spanR ((b.drop p).take (q - p)) false with
    | (lo, hi, r) => if r = true then looseL b f (p + hi) q (acc ++ [(b.drop (p + lo)).take (hi - lo)]) else none
def refU (b : List UInt8) : List (List UInt8) × Int :=
  match spanR b true with
  | (p, q, ok) => if ok = false ∨ 131072 < b.length then ([], 160) else match looseL b (b.length + 1) p q [] with
    | none => ([], 160)
    | some l => if packR l = (b, 0) then (l, 0) else ([], 160)

theorem spanN_ok (b : List UInt8) : ∀ (ds : List UInt8) (i n : Nat), b.drop i = ds ++ b.drop (i + ds.length) → ds.foldl (fun n c => n * 256 + c.toNat) n ≤ 131072 → spanN b ds.length i n = some (ds.foldl (fun n c => n * 256 + c.toNat) n)
  | [], i, n, _, _ => by simp [spanN]
  | d :: r, i, n, hd, hl => by
    have hmono : ∀ (l : List UInt8) (n : Nat), n ≤ l.foldl (fun n c => n * 256 + c.toNat) n := by
      intro l
      induction l with
      | nil => intro n; simp
      | cons c r ih => intro n; simp only [List.foldl_cons]; have := ih (n * 256 + c.toNat); omega
    have hil : i < b.length := by
      have := congrArg List.length hd
      simp at this
      omega
    have h0 : b.getD i 0 = d := by
      have := congrArg (fun l => l.getD 0 0) hd
      simpa [List.getD] using this
    have hd2 : b.drop (i + 1) = r ++ b.drop (i + 1 + r.length) := by
      have := congrArg (List.drop 1) hd
      rw [List.drop_drop] at this
      simpa [Nat.add_assoc, Nat.add_comm 1] using this
    have hn : n ≤ 131072 := Nat.le_trans (hmono (d :: r) n) hl
    rw [List.length_cons, spanN, if_neg (by omega), h0]
    exact spanN_ok b r (i + 1) _ hd2 (by simpa using hl)

theorem span_head {b t : List UInt8} {n : Nat} {base : UInt8} (hb : base = 128 ∨ base = 192) (h : b = headB n base ++ t) (hn : n ≤ 131072) :
    spanR b (decide (base = 192)) = ((headB n base).length, (headB n base).length + n, decide (n ≤ t.length)) := by
  have hbt : base.toNat = 128 ∨ base.toNat = 192 := by rcases hb with rfl | rfl <;> decide
  have hl := congrArg List.length h
  rw [List.length_append] at hl
  by_cases h56 : n < 56
  · have hh : headB n base = [base + UInt8.ofNat n] := if_pos h56
    rw [hh] at h hl ⊢
    have h0 : (b.getD 0 0).toNat = base.toNat + n := by
      rw [h]
      simp [UInt8.toNat_add]
      omega
    unfold spanR
    rw [if_neg, h0, if_neg (by omega), if_pos (by omega)]
    · simp only [List.length_cons, List.length_nil] at hl ⊢
      rw [show (base.toNat + n) % 64 = n by omega]
      rw [show decide (1 + n ≤ b.length) = decide (n ≤ t.length) by rw [decide_eq_decide]; omega]
    · rw [h0]
      rintro (h1 | h1)
      · rw [h1] at hl; simp at hl; omega
      · apply h1
        rcases hb with rfl | rfl
        · simp at hbt ⊢; omega
        · simp at hbt ⊢
  · have hh : headB n base = (base + 55 + UInt8.ofNat (beB n).length) :: beB n := if_neg h56
    have hk3 : (beB n).length ≤ 3 := beB_len 3 n (by omega)
    have hk1 : 1 ≤ (beB n).length := by
      cases hq : beB n with
      | nil => have := congrArg beNat hq; rw [beNat_beB] at this; simp [beNat] at this; omega
      | cons a r => simp
    rw [hh] at h hl ⊢
    have h0 : (b.getD 0 0).toNat = base.toNat + 55 + (beB n).length := by
      rw [h]
      simp [UInt8.toNat_add]
      omega
    have hN : spanN b (beB n).length 1 0 = some n := by
      have := spanN_ok b (beB n) 1 0 (by rw [h]; simp [Nat.add_comm 1]) (by have := beNat_beB n; unfold beNat at this; rw [this]; exact hn)
      rw [this]
      have := beNat_beB n
      unfold beNat at this
      rw [this]
    unfold spanR
    rw [if_neg, h0, if_neg (by omega), if_neg (by omega)]
    · rw [show (base.toNat + 55 + (beB n).length) % 64 - 55 = (beB n).length by omega, hN]
      simp only [List.length_cons] at hl ⊢
      simp only [Prod.mk.injEq]
      refine ⟨by omega, by omega, ?_⟩
      rw [decide_eq_decide]
      omega
    · rw [h0]
      rintro (h1 | h1)
      · rw [h1] at hl; simp at hl; omega
      · apply h1
        rcases hb with rfl | rfl
        · simp at hbt ⊢; omega
        · simp at hbt ⊢; omega
theorem strB_ge (l : List UInt8) : l.length ≤ (strB l).length := by
  rw [strB_eq]
  split
  · omega
  · simp
theorem body_ge (ls : List (List UInt8)) : totL ls ≤ (bodyB ls).length := by
  induction ls with
  | nil => simp [totL, bodyB]
  | cons l r ih =>
    have := strB_ge l
    simp only [totL, bodyB, List.map_cons, List.sum_cons, List.flatMap_cons, List.length_append] at ih ⊢
    omega
theorem span_str {l t : List UInt8} (h1 : 1 ≤ l.length) (h2 : l.length ≤ 1024) : ∃ h, spanR (strB l ++ t) false = (h, h + l.length, true) ∧ (strB l).length = h + l.length ∧ (strB l).drop h = l := by
  by_cases hc : l.length = 1 ∧ (l.getD 0 0).toNat < 128
  · have hs : strB l = l := by rw [strB_eq, if_pos hc]
    match l, hc, hs with
    | [x], hc, hs =>
      refine ⟨0, ?_, by rw [hs]; simp, by rw [hs]; rfl⟩
      rw [hs]
      have hx : x.toNat < 128 := by simpa using hc
      unfold spanR
      simp only [List.cons_append, List.nil_append, List.getD_cons_zero]
      rw [if_neg, if_pos hx]
      · rfl
      · rintro (h | h)
        · cases h
        · apply h; simp; omega
  · have hs : strB l = headB l.length 128 ++ l := by rw [strB_eq, if_neg hc]
    have := span_head (b := strB l ++ t) (t := l ++ t) (n := l.length) (base := 128) (.inl rfl) (by rw [hs, List.append_assoc]) (by omega)
    refine ⟨(headB l.length 128).length, ?_, by rw [hs, List.length_append], by rw [hs]; simp⟩
    rw [show (false : Bool) = decide ((128 : UInt8) = 192) by decide, this]
    simp
theorem loose_body (b : List UInt8) : ∀ (ls : List (List UInt8)) (p f : Nat) (acc : List (List UInt8)) (t : List UInt8), ls.all okS = true → b.drop p = bodyB ls ++ t → ls.length + 1 ≤ f → looseL b f p (p + (bodyB ls).length) acc = some (acc ++ ls)
  | [], p, f + 1, acc, t, _, _, _ => by simp [looseL, bodyB]
  | l :: r, p, 0, acc, t, _, _, hf => by simp at hf
  | l :: r, p, f + 1, acc, t, hok, hd, hf => by
    simp only [List.all_cons, Bool.and_eq_true, okS, decide_eq_true_eq] at hok
    obtain ⟨⟨k1, k2⟩, hr⟩ := hok
    obtain ⟨h, hs, hl, hdr⟩ := span_str (l := l) (t := bodyB r) k1 k2
    have e : bodyB (l :: r) = strB l ++ bodyB r := by simp [bodyB]
    rw [e] at hd ⊢
    have hlen := strB_ge l
    rw [looseL, if_neg (by simp; omega)]
    have ht : (b.drop p).take (p + (strB l ++ bodyB r).length - p) = strB l ++ bodyB r := by
      rw [hd, Nat.add_sub_cancel_left]
      exact List.take_left' rfl
    rw [ht, hs]
    simp only [if_true]
    have hpc : (b.drop (p + h)).take (h + l.length - h) = l := by
      rw [← List.drop_drop, hd, Nat.add_sub_cancel_left]
      rw [List.append_assoc, List.drop_append_of_le_length (by omega), hdr]
      exact List.take_left' rfl
    rw [hpc, ← hl]
    have hd2 : b.drop (p + (strB l).length) = bodyB r ++ t := by
      rw [← List.drop_drop, hd, List.append_assoc]
      exact List.drop_left' rfl
    have := loose_body b r (p + (strB l).length) f (acc ++ [l]) t (by simpa [okS] using hr) hd2 (by simp at hf; omega)
    rw [show p + (strB l ++ bodyB r).length = p + (strB l).length + (bodyB r).length by simp [Nat.add_assoc], this]
    simp
theorem unp_ok {b : List UInt8} {ls : List (List UInt8)} (h : packR ls = (b, 0)) : unpR b = (ls, 0) ∧ refU b = (ls, 0) := by
  unfold packR at h
  split at h
  case isFalse => injection h with _ h; simp at h
  case isTrue hp =>
  injection h with h
  subst h
  obtain ⟨h1, h2, h3⟩ := hp
  have he := enc_list h1 h2
  have hwt : wtI (listI ls) ≤ 1099511627776 := by rw [wt_list]; have := (body_len h1).2; omega
  have hd := (dec_enc hwt he).1
  constructor
  · unfold unpR
    rw [if_neg (by omega), hd]
    simp only [listI, It.l, It.xs]
    rw [if_pos]
    · simp [leafI, It.b, List.map_map, Function.comp_def]
    · refine ⟨trivial, ?_⟩
      rw [List.all_eq_true] at h1 ⊢
      intro y hy
      obtain ⟨l, hl, rfl⟩ := List.mem_map.1 hy
      simpa [leafI, It.l, It.b] using h1 l hl
  · have hbl : (bodyB ls).length ≤ 131072 := by unfold listB at h3; rw [List.length_append] at h3; omega
    have hs := span_head (b := listB ls) (t := bodyB ls) (n := (bodyB ls).length) (base := 192) (.inr rfl) rfl hbl
    unfold refU
    rw [show (true : Bool) = decide ((192 : UInt8) = 192) by decide, hs]
    simp only [Nat.le_refl, decide_true]
    rw [if_neg (by simp; omega)]
    have hn := (body_len h1).2
    have hg := body_ge ls
    have hll : (listB ls).length = (headB (bodyB ls).length 192).length + (bodyB ls).length := by unfold listB; rw [List.length_append]
    rw [loose_body (listB ls) ls _ _ [] [] h1 (by unfold listB; simp) (by omega)]
    simp only [List.nil_append]
    rw [if_pos (packR_ok h1 h2 h3)]
theorem unp_pack {b : List UInt8} {ls : List (List UInt8)} (h : unpR b = (ls, 0)) : packR ls = (b, 0) := by
  unfold unpR at h
  split at h
  · injection h with _ h; simp at h
  · rename_i hb
    cases hd : decR b with
    | bad p c => rw [hd] at h; injection h with _ h; simp at h
    | ok x q =>
      rw [hd] at h
      simp only at h
      split at h
      case isFalse => injection h with _ h; simp at h
      case isTrue hx =>
      injection h with h
      subst h
      have he := enc_dec hd
      obtain ⟨-, hm, -, hf⟩ := encR_ok he
      obtain ⟨l, bs, xs⟩ := x
      obtain ⟨hl, hall⟩ := hx
      simp only [It.l, It.xs] at hl hall ⊢
      subst hl
      rw [mayI] at hm
      simp only [if_true, Bool.and_eq_true] at hm
      obtain ⟨hm1, hm2⟩ := hm
      have hbs : bs = [] := by cases bs with
        | nil => rfl
        | cons a r => simp at hm2; omega
      have hxs : ∀ xs : List It, mayL xs = true → xs.all (fun y => !y.l && okS y.b) = true → xs = (xs.map (·.b)).map leafI ∧ (xs.map (·.b)).all okS = true := by
        intro xs
        induction xs with
        | nil => intro _ _; simp
        | cons y r ih =>
          intro h1 h2
          rw [mayL] at h1
          simp only [List.all_cons, Bool.and_eq_true] at h1 h2
          obtain ⟨i1, i2⟩ := ih h1.2 h2.2
          obtain ⟨yl, yb, yx⟩ := y
          have hyl : yl = false := by simpa [It.l] using h2.1.1
          subst hyl
          have hyx : yx = [] := by
            have := h1.1
            rw [mayI] at this
            cases yx with
            | nil => rfl
            | cons a r => simp at this; omega
          subst hyx
          refine ⟨?_, ?_⟩
          · rw [List.map_cons, List.map_cons, ← i1]
            rfl
          · rw [List.map_cons, List.all_cons, i2, h2.1.2]
            rfl
      obtain ⟨e1, e2⟩ := hxs xs hm1 hall
      rw [hbs, e1] at hf
      have hfl : b = listB (xs.map (·.b)) := by rw [hf]; exact formI_list _
      have hbl := body_ge (xs.map (·.b))
      have hlb : (listB (xs.map (·.b))).length ≤ 131072 := by rw [← hfl]; omega
      have : (bodyB (xs.map (·.b))).length ≤ (listB (xs.map (·.b))).length := by unfold listB; rw [List.length_append]; omega
      rw [packR_ok e2 (by omega) hlb, ← hfl]
theorem refU_code (b : List UInt8) : (refU b).2 = 0 ∨ refU b = ([], 160) := by
  unfold refU
  split
  split
  · exact .inr rfl
  · split
    · exact .inr rfl
    · split
      · exact .inl rfl
      · exact .inr rfl
theorem refU_pack {b : List UInt8} {ls : List (List UInt8)} (h : refU b = (ls, 0)) : packR ls = (b, 0) := by
  unfold refU at h
  split at h
  split at h
  · injection h with _ h; simp at h
  · split at h
    · injection h with _ h; simp at h
    · split at h
      · injection h with h
        subst h
        assumption
      · injection h with _ h; simp at h
theorem unpR_code (b : List UInt8) : (unpR b).2 = 0 ∨ unpR b = ([], 160) := by
  unfold unpR
  split
  · exact .inr rfl
  · split
    · split
      · exact .inl rfl
      · exact .inr rfl
    · exact .inr rfl
/-- the loose reader tells what the strict one tells -/
theorem unp_ref (b : List UInt8) : refU b = unpR b := by
  rcases unpR_code b with h | h
  · have hu : unpR b = ((unpR b).1, 0) := by rw [← h]
    rw [(unp_ok (unp_pack hu)).2, ← hu]
  · rcases refU_code b with h' | h'
    · have hu : refU b = ((refU b).1, 0) := by rw [← h']
      rw [(unp_ok (refU_pack hu)).1, ← hu]
    · rw [h, h']
end Go.Proofs.Ytdhkhdeblkbojaa
set_option linter.unusedSimpArgs false
namespace Go.Proofs.Ytdhkhdeblkbojaa
open Go.RowKit
attribute [local go_sem ↓] Go.wp_at_zero Go.wp_at_succ
attribute [local go_sem] size_gr cell_gr frozen_gr setCell_gr gr_drew gr_drewN lt_k lt_kc le_k le_kc sub_kc

/-- A leads to slice values vs that read as the strings ls. -/
structure SLs (w : World) (A : Option Addr) (vs : List Value) (ls : List (List UInt8)) : Prop where
  len : vs.length = ls.length
  rd : RdV w A vs
  sb : ∀ i (h : i < vs.length), SB w vs[i] (ls[i]'(len ▸ h))
theorem RdV.below {w w' : World} {A : Option Addr} {vs : List Value} (h : RdV w A vs) (hb : Below w.heap.size w w') : RdV w' A vs := h.chg (Below.chg (fun _ => False) hb) (fun _ _ h => h)
theorem SLs.below {w w' : World} {A : Option Addr} {vs : List Value} {ls : List (List UInt8)} (h : SLs w A vs ls) (hb : Below w.heap.size w w') : SLs w' A vs ls :=
  ⟨h.len, h.rd.below hb, fun i hi => (h.sb i hi).below hb⟩
/-- element i, as the walk reads it -/
theorem SLs.at {w : World} {A : Option Addr} {vs : List Value} {ls : List (List UInt8)} (h : SLs w A vs ls) {i : Nat} (hi : i < ls.length) :
    ∃ b off A1 c1, A = some ⟨b, off, none⟩ ∧ w.cell? ⟨b, off + i, none⟩ = some (.slice A1 ls[i].length c1) ∧ vs[i]'(h.len ▸ hi) = .slice A1 ls[i].length c1 ∧ SB w (.slice A1 ls[i].length c1) ls[i] ∧ b < w.heap.size := by
  have hi' : i < vs.length := by rw [h.len]; exact hi
  obtain ⟨b, off, e, hc⟩ := h.rd i hi'
  have hs := h.sb i hi'
  obtain ⟨A1, c1, hv, -⟩ := hs
  have hs := h.sb i hi'
  rw [hv] at hc hs
  exact ⟨b, off, A1, c1, e, hc, hv, hs, World.block_lt_of_cell? w _ hc⟩

set_option maxRecDepth 100000 in
set_option maxHeartbeats 2000000 in
theorem pheader_any (n : Nat) (base : UInt8) (hb : base = 128 ∨ base = 192) (hn : n ≤ 1099511627776) (w : World) : Calls Try.prog 68 #[.int .i64 ((base.toNat : Nat) : Int), .int .i64 (n : Int)] w fun e w' => ∃ v, e = .returned v ∧ OwnB w' w.heap.size v (headB n base) ∧ Below w.heap.size w w' := by
  have hbn : base.toNat ≤ 192 := by rcases hb with rfl | rfl <;> decide
  have hl8 := beB_len 8 n (by omega)
  by_cases h56 : n < 56
  · have h56' : (n : Int) < 56 := by omega
    have hfin : Hid (headB n base = [base + UInt8.ofNat n]) := if_pos h56
    clear hb
    go_enter Try.func68, Try.ntmps68
    go_wp2_with fail
    go_ret
    rw [hfin.out]
    refine ⟨_, rfl, OwnB.of (own_lit w _ 5 (n := 1) (size := 1) (Nat.le_refl _) (by simp [maxLen]) (by rfl)) (by simp [bv, UInt8.toNat_add]; omega), by (repeat (first | exact Below.refl _ _ | refine bg_al ?_ | refine bg_gr ?_ | refine bg_drn ?_ | refine bg_dr ?_ | assumption))⟩
  · have h56' : ¬ (n : Int) < 56 := by omega
    have hfin : Hid (headB n base = (base + 55 + UInt8.ofNat (beB n).length) :: beB n) := if_neg h56
    clear hb
    go_enter Try.func68, Try.ntmps68
    go_wp2_with fail
    go_loopw [5, 6] (fun v v0 wr => ∃ (k : Nat) (A : Option Addr) (c : Nat) (l : List UInt8), k ≤ n ∧ v0 = .int .i64 k ∧ v = .slice A l.length c ∧ beB n = beB k ++ l ∧ OwnB wr w.heap.size (.slice A l.length c) l ∧ ∃ D, wr = w.gr D) (fun _ v _ => (intOf v).toNat)
    case atStart => exact ⟨n, none, 0, [], by omega, rfl, rfl, by simp, OwnB.nil _ _, _, (gr_nil _).symm⟩
    case round =>
      obtain ⟨k, A, c, l, hk, rfl, rfl, hbe, ho, D, rfl⟩ := hrel
      have HO := Lib.hid ho
      clear ho
      by_cases h0 : k = 0
      · subst h0
        have hbl : Hid (beB n = l) := by show _ = _; rw [hbe, beB_zero]; rfl
        have hll : l.length ≤ 8 := by rw [← hbl.out]; exact hl8
        clear hbe
        rw [hbl.out] at hfin
        go_wp2_with (at_builtin; go_must (refine ap_new [base + 55 + UInt8.ofNat l.length] l _ (l.length + 1) rfl rfl rfl rfl rfl rfl (by rfl) (by simp only [World.size_alloc, size_gr, World.size_setCell, World.size_drew]) (by simp [bv, UInt8.toNat_add]; omega) rfl rfl (by rfl) (HO.out.sb.below (by (repeat (first | exact Below.refl _ _ | refine bg_al ?_ | refine bg_gr ?_ | refine bg_drn ?_ | refine bg_dr ?_ | assumption)))) (by simp; omega) ?_; intro D7 A7 c7 ho7 hc7 hm7))
        go_ret
        rw [hfin.out]
        exact ⟨_, rfl, (ho7 _ (by (repeat (first | (refine at_base ?_; simp only [World.size_alloc, size_gr, World.size_setCell, World.size_drew]; done) | (refine at_base ?_; rfl) | refine at_al ?_ | refine at_gr ?_ | refine at_drn ?_ | refine at_dr ?_ | assumption)))).mono (by simp only [World.size_alloc, size_gr]; omega), by (repeat (first | exact Below.refl _ _ | refine bg_al ?_ | refine bg_gr ?_ | refine bg_drn ?_ | refine bg_dr ?_ | assumption))⟩
      · have hk0 : (0 : Int) < k := by omega
        rw [beB_pos h0] at hbe
        have hll : l.length ≤ 8 := by have := congrArg List.length hbe; simp at this; omega
        have HBe := Lib.hid hbe
        clear hbe h0
        go_wp2_with (at_builtin; go_must (refine ap_new [UInt8.ofNat k] l (UInt8.ofNat k :: l) (l.length + 1) rfl rfl rfl rfl rfl rfl (by rfl) (by simp only [World.size_alloc, size_gr, World.size_setCell, World.size_drew]) (by simp [bv]) rfl rfl (by rfl) (HO.out.sb.below (by (repeat (first | exact Below.refl _ _ | refine bg_al ?_ | refine bg_gr ?_ | refine bg_drn ?_ | refine bg_dr ?_ | assumption)))) (by simp; omega) ?_); intro D7 A7 c7 ho7 hc7 hm7)
        exact ⟨⟨k / 256, _, _, _, by omega, by go_num, rfl, by rw [HBe.out]; simp, (ho7 _ (by (repeat (first | (refine at_base ?_; simp only [World.size_alloc, size_gr, World.size_setCell, World.size_drew]; done) | (refine at_base ?_; rfl) | refine at_al ?_ | refine at_gr ?_ | refine at_drn ?_ | refine at_dr ?_ | assumption)))).mono (by rw [size_gr]; omega), gr_of_below (by (repeat (first | exact Below.refl _ _ | refine bg_al ?_ | refine bg_gr ?_ | refine bg_drn ?_ | refine bg_dr ?_ | assumption)))⟩, by simp [intOf]; omega⟩

set_option maxRecDepth 100000 in
set_option maxHeartbeats 2000000 in
theorem pmay_any (A : Option Addr) (l : List UInt8) (c : Nat) (w : World) : Calls Try.prog 69 #[.slice A l.length c] w fun e w' => e = .returned (.bool (okS l)) ∧ w = w' := by
  by_cases h1 : 1 ≤ l.length
  · by_cases h2 : l.length ≤ 1024
    · have HH : Hid (okS l = true) := by show _ = _; simp [okS, h1, h2]
      have h1' : (1 : Int) ≤ (l.length : Int) := by omega
      have h2' : (l.length : Int) ≤ 1024 := by omega
      clear h1 h2
      go_enter Try.func69, Try.ntmps69
      go_wp2_with fail
      go_ret
      rw [HH.out]
      exact ⟨rfl, rfl⟩
    · have HH : Hid (okS l = false) := by show _ = _; simp [okS, h2]
      have h1' : (1 : Int) ≤ (l.length : Int) := by omega
      have h2' : ¬ (l.length : Int) ≤ 1024 := by omega
      clear h1 h2
      go_enter Try.func69, Try.ntmps69
      go_wp2_with fail
      go_ret
      rw [HH.out]
      exact ⟨rfl, rfl⟩
  · have HH : Hid (okS l = false) := by show _ = _; simp [okS, h1]
    have h1' : ¬ (1 : Int) ≤ (l.length : Int) := by omega
    clear h1
    go_enter Try.func69, Try.ntmps69
    go_wp2_with fail
    go_ret
    rw [HH.out]
    exact ⟨rfl, rfl⟩
end Go.Proofs.Ytdhkhdeblkbojaa
set_option linter.unusedSimpArgs false
namespace Go.Proofs.Ytdhkhdeblkbojaa
open Go.RowKit
attribute [local go_sem ↓] Go.wp_at_zero Go.wp_at_succ
attribute [local go_sem] size_gr cell_gr frozen_gr setCell_gr gr_drew gr_drewN lt_k lt_kc le_k le_kc sub_kc

def leafC (v : Value) : List Value := [.bool false, v, .slice none 0 0]
def leafEs : List Value → List (List UInt8) → List Ent
  | v :: vs, l :: ls => ⟨.bool false, v, .slice none 0 0, leafI l, [v]⟩ :: leafEs vs ls
  | _, _ => []
theorem leafEs_len : ∀ (vs : List Value) (ls : List (List UInt8)), vs.length = ls.length → (leafEs vs ls).length = ls.length ∧ (leafEs vs ls).flatMap Ent.cells = vs.flatMap leafC ∧ (leafEs vs ls).map (·.x) = ls.map leafI
  | [], [], _ => ⟨rfl, rfl, rfl⟩
  | [], _ :: _, h => by simp at h
  | _ :: _, [], h => by simp at h
  | v :: vs, l :: ls, h => by
    obtain ⟨h1, h2, h3⟩ := leafEs_len vs ls (by simpa using h)
    exact ⟨by simp [leafEs, h1], by simp [leafEs, h2, Ent.cells, leafC], by simp [leafEs, h3]⟩
theorem leafEs_rd {w : World} : ∀ (vs : List Value) (ls : List (List UInt8)) (hl : vs.length = ls.length), (∀ i (h : i < vs.length), SB w vs[i] (ls[i]'(hl ▸ h))) → ∀ e ∈ leafEs vs ls, RdI w (fun _ => True) e.v0 e.v1 e.v2 e.x e.sv
  | [], [], _, _ => fun e he => by cases he
  | [], _ :: _, h, _ => by simp at h
  | _ :: _, [], h, _ => by simp at h
  | v :: vs, l :: ls, h, hs => fun e he => by
    rcases List.mem_cons.1 he with rfl | he
    · exact RdI.leaf false (hs 0 (by simp)) (fun _ _ _ _ => trivial)
    · exact leafEs_rd vs ls (by simpa using h) (fun i hi => hs (i + 1) (by simpa using hi)) e he
theorem list_item {w : World} {A A' : Option Addr} {c : Nat} {vs : List Value} {ls : List (List UInt8)} {N : Nat} (h : SLs w A' vs ls) (hrow : w.ownsRow N 46 3 (.slice A ls.length c) ls.length (vs.flatMap leafC)) :
    ∃ sv, RdI w (fun _ => True) (.bool true) (.slice none 0 0) (.slice A ls.length c) (listI ls) sv := by
  obtain ⟨h1, h2, h3⟩ := leafEs_len vs ls h.len
  have hE := leafEs_rd vs ls h.len h.sb
  generalize leafEs vs ls = E at h1 h2 h3 hE
  rw [← h1, ← h2] at hrow
  obtain ⟨A'', c'', e, hl, hn⟩ := Src.own hrow
  injection e with e1 e2 e3
  subst e1 e3
  obtain ⟨k1, k2, k3⟩ := row_caps hrow
  have := RdI.mk (T := fun _ => True) true (.slice none 0 0) [] A c E (SB.nil w) (fun _ _ _ _ => trivial) k1 k2 k3 (fun _ _ => trivial) ⟨_, _, rfl, hl, hn⟩ hE
  rw [h3, h1] at this
  exact ⟨_, this⟩

def PkPost (w : World) (ls : List (List UInt8)) (e : Ending) (w' : World) : Prop :=
  ∃ b ok l, e = .returned (.tuple #[b, .bool ok]) ∧ OwnB w' w.heap.size b l ∧ Below w.heap.size w w' ∧ ((ok = true ∧ packR ls = (l, 0)) ∨ (ok = false ∧ packR ls = ([], 2)))

set_option maxRecDepth 100000 in
set_option maxHeartbeats 4000000 in
theorem packed_any {A : Option Addr} {cA : Nat} {vs : List Value} {ls : List (List UInt8)} (w : World) (h : SLs w A vs ls) (hn : ls.length ≤ 1099511627776) (hl : ∀ l ∈ ls, l.length ≤ 1099511627776) :
    Calls Try.prog 67 #[.slice A ls.length cA] w (PkPost w ls) := by
  have HS := Lib.hid h
  have HL := Lib.hid (fun i (hi : i < ls.length) => hl ls[i] (List.getElem_mem hi))
  have hvl := h.len
  have HVl := Lib.hid hvl
  clear h hl hvl
  go_enter Try.func67, Try.ntmps67
  go_wp2_with fail
  go_loopw [4, 13] (fun s v wr => ∃ (i : Nat) (V : Value), i ≤ ls.length ∧ v = .int .i64 i ∧ s = .int .i64 (totL (ls.take i) : Int) ∧ (ls.take i).all okS = true ∧ totL (ls.take i) ≤ 131072 ∧ wr.heap[w.heap.size]? = some (.cells #[.bool true, .slice none 0 0, V] 46 (0, 0)) ∧ wr.ownsRow (w.heap.size + 1) 46 3 V i ((vs.take i).flatMap leafC) ∧ Below w.heap.size w wr) (fun _ v _ => ls.length - (intOf v).toNat)
  case atStart => exact ⟨0, _, by omega, rfl, by simp [totL], by simp, by simp [totL], heap_alloc_new w _, own_nil _ _ _ _, by (repeat (first | exact Below.refl _ _ | refine bg_al ?_ | refine bg_gr ?_ | refine bg_drn ?_ | refine bg_dr ?_ | assumption))⟩
  case round =>
    obtain ⟨i, V, hi, rfl, rfl, hok, htot, hblk, hrow, hbel⟩ := hrel
    have HOk := Lib.hid hok
    have HBlk := Lib.hid hblk
    have HRow := Lib.hid hrow
    have HB := Lib.hid hbel
    have g0 : wr.cell? ⟨w.heap.size, 0, none⟩ = some (.bool true) := cell_of_row wr w.heap.size 0 _ _ _ hblk
    have g1 : wr.cell? ⟨w.heap.size, 1, none⟩ = some (.slice none 0 0) := cell_of_row wr w.heap.size 1 _ _ _ hblk
    have g2 : wr.cell? ⟨w.heap.size, 2, none⟩ = some V := cell_of_row wr w.heap.size 2 _ _ _ hblk
    have hwz := hbel.size
    have hlt := World.block_lt_of_cell? wr _ g0
    simp only at hlt
    clear hok hblk hrow hbel
    by_cases hi1 : i < ls.length
    · obtain ⟨b, off, A1, c1, rfl, hc, hv, -, hbw⟩ := SLs.at (HS.out.below HB.out) hi1
      obtain ⟨t1, t2, -⟩ := take_ok hi1
      have hll := HL.out i hi1
      have h1i : (i : Int) < (ls.length : Int) := by omega
      have hi0 : (0 : Int) ≤ (i : Int) := by omega
      have HV := Lib.hid hv
      have HT1 := Lib.hid t1
      have HT2 := Lib.hid t2
      have HM := pmay_any A1 ls[i] c1 wr
      generalize totL (ls.take i) = tt at *
      clear hv t1 t2
      cases hk : okS ls[i] with
      | false =>
        have HH : Hid (packR ls = ([], 2)) := packR_bad (fun h => by rw [List.all_eq_true] at h; have := h ls[i] (List.getElem_mem hi1); rw [hk] at this; cases this)
        rw [hk] at HM
        have HM := Lib.hid HM
        clear hk
        go_wp2_with (go_at_call 69; refine HM.out.mono ?_; rintro en w1 ⟨rfl, rfl⟩)
        refine bodyPost_ret (v := .tuple #[.slice none 0 0, .bool false]) (by simp [results, Try.results67, go_sem]) rfl ?_
        exact ⟨_, _, [], rfl, OwnB.nil _ _, HB.out, .inr ⟨rfl, HH.out⟩⟩
      | true =>
        rw [hk] at HM
        have HM := Lib.hid HM
        have HK := Lib.hid hk
        clear hk
        by_cases h2 : 131072 < tt + ls[i].length
        · have HH : Hid (packR ls = ([], 2)) := packR_bad (fun _ h _ => by have := tot_take ls (i + 1); rw [HT2.out] at this; omega)
          have h2i : (131072 : Int) < (tt : Int) + (ls[i].length : Int) := by omega
          clear h2
          go_wp2_with (go_at_call 69; refine HM.out.mono ?_; rintro en w1 ⟨rfl, rfl⟩)
          refine bodyPost_ret (v := .tuple #[.slice none 0 0, .bool false]) (by simp [results, Try.results67, go_sem]) rfl ?_
          exact ⟨_, _, [], rfl, OwnB.nil _ _, HB.out, .inr ⟨rfl, HH.out⟩⟩
        · have h2i : ¬ (131072 : Int) < (tt : Int) + (ls[i].length : Int) := by omega
          have hne := HRow.out.lt
          have HNe := Lib.hid (fun g (hg : V.ownBlock = some g) => (show g ≠ w.heap.size by have := (hne g hg).1; omega))
          have HGe := Lib.hid (fun g (hg : V.ownBlock = some g) => (show w.heap.size ≤ g by have := (hne g hg).1; omega))
          have hf2 := frozen_of_row wr w.heap.size 2 _ _ HBlk.out
          clear hne
          go_wp2_with (first
            | (go_at_call 69; refine HM.out.mono ?_; rintro en w1 ⟨rfl, rfl⟩)
            | (at_builtin; go_must (refine wpList_ap (s := .tmp 29) (x := .tmp 32) (v := V) (n := i) (xs := (vs.take i).flatMap leafC) (xv := .slice (some ⟨wr.heap.size, 0, none⟩) 1 1) (m := 1) (news := [.bool false, .slice A1 ls[i].length c1, .slice none 0 0]) itemsT rfl rfl rfl (own_below HRow.out (by (repeat (first | exact Below.refl _ _ | refine bg_al ?_ | refine bg_gr ?_ | refine bg_drn ?_ | refine bg_dr ?_ | assumption)))) rfl (Src.block (cs := #[.bool false, .slice A1 ls[i].length c1, .slice none 0 0]) (t := 46) (fr := (0, 0)) (by (repeat (first | (refine blk_new ?_; first | rfl | (simp only [World.size_alloc, size_gr, World.size_setCell, World.size_drew]; done) | (simp only [World.size_alloc, size_gr, World.size_setCell, World.size_drew]; omega) | omega) | refine blk_dr ?_ | refine blk_drn ?_ | refine blk_al (by simp only [World.size_alloc, size_gr, World.size_setCell, World.size_drew]; omega) ?_ | refine blk_gr (by simp only [World.size_alloc, size_gr, World.size_setCell, World.size_drew]; omega) ?_ | assumption))) rfl) (by simp [Value.oneCell']) (by simp only [maxLen]; omega) (by omega) (by simp only [World.size_alloc]; omega) ?_); intro V1 w1 hap; obtain ⟨g9, c9, rfl, hc9, hm9, hb9, hlt9⟩ := own_form hap.1 (by omega); obtain ⟨q2, z2⟩ := hold_ap (a := ⟨w.heap.size, 2, none⟩) hap HNe.out (hold_chg ((Chg.refl (fun _ => False) wr).alloc _) ⟨g2, hf2⟩ (fun h => h))))
          have hblk1 := (hap.2.1.block w.heap.size (by simp only [World.size_alloc]; omega) (fun e => HNe.out _ e.symm rfl)).trans ((blk_al (by omega) HBlk.out))
          have hB1 : Below w.heap.size w w1 := ap_below (HB.out.alloc HB.out.size _) hap (by simp only [World.size_alloc]; omega) HGe.out
          have hsnoc : (vs.take (i + 1)).flatMap leafC = (vs.take i).flatMap leafC ++ [.bool false, .slice A1 ls[i].length c1, .slice none 0 0] := by
            have hiv : i < vs.length := by rw [HVl.out]; exact hi1
            rw [← List.take_append_getElem hiv, List.flatMap_append, HV.out]
            simp [leafC]
          refine ⟨⟨i + 1, _, by omega, by go_num, by rw [HT2.out]; go_num, HT1.out.2 ⟨HOk.out, HK.out⟩, by rw [HT2.out]; omega, heap_setCell_same w1 w.heap.size 2 _ _ _ hblk1, ?_, hB1.setCell (Nat.le_refl _) _⟩, by simp [intOf]; omega⟩
          rw [hsnoc]
          exact own_chg hap.1 ((Chg.refl (· = w.heap.size) w1).setCell (p := ⟨w.heap.size, 2, none⟩) rfl _) (fun k hk e => by have := own_ge hap.1 k hk; omega)
    · obtain rfl : i = ls.length := by omega
      have h1i : ¬ (ls.length : Int) < (ls.length : Int) := by omega
      have hrow := HRow.out
      rw [← HVl.out, List.take_length] at hrow
      have htk : ls.take ls.length = ls := List.take_length
      have hok := HOk.out
      rw [htk] at hok htot
      obtain ⟨AV, cV, rfl, -⟩ := Src.own HRow.out
      rw [HVl.out] at hrow
      obtain ⟨sv, hit⟩ := list_item (HS.out.below HB.out) hrow
      have HC := Lib.hid (encode_eq (enc_list hok htot) hit (by rw [wt_list]; have := (body_len hok).2; omega))
      have hlb := listB_le hok htot
      have HH : Hid (packR ls = if (listB ls).length ≤ 131072 then (listB ls, 0) else ([], 2)) := by
        show _ = _
        unfold packR
        by_cases h3 : (listB ls).length ≤ 131072
        · rw [if_pos ⟨hok, htot, h3⟩, if_pos h3]
        · rw [if_neg (fun h => h3 h.2.2), if_neg h3]
      clear hrow hok htk hit
      go_wp2_with (go_at_call 25; refine HC.out.mono ?_; rintro en w2 ⟨v2, rfl, ho2, hb2⟩; obtain ⟨A2, c2, rfl, -⟩ := ho2.form; have HO2 := Lib.hid ho2; have HB2 := Lib.hid hb2; clear ho2 hb2)
      by_cases h3 : (listB ls).length ≤ 131072
      · have h3i : ((listB ls).length : Int) ≤ 131072 := by omega
        have HP : Hid (packR ls = (listB ls, 0)) := by show _ = _; rw [HH.out, if_pos h3]
        clear h3
        go_wp2_with fail
        refine bodyPost_ret (v := .tuple #[.slice A2 (listB ls).length c2, .bool true]) (by simp [results, Try.results67, go_sem]; omega) rfl ?_
        exact ⟨_, _, _, rfl, HO2.out.mono (by omega), HB.out.trans (HB2.out.mono (by omega)), .inl ⟨rfl, HP.out⟩⟩
      · have h3i : ¬ ((listB ls).length : Int) ≤ 131072 := by omega
        have HP : Hid (packR ls = ([], 2)) := by show _ = _; rw [HH.out, if_neg h3]
        clear h3
        go_wp2_with fail
        refine bodyPost_ret (v := .tuple #[.slice A2 (listB ls).length c2, .bool false]) (by simp [results, Try.results67, go_sem]; omega) rfl ?_
        exact ⟨_, _, _, rfl, HO2.out.mono (by omega), HB.out.trans (HB2.out.mono (by omega)), .inr ⟨rfl, HP.out⟩⟩

def PackPost (w : World) (ls : List (List UInt8)) (e : Ending) (w' : World) : Prop :=
  ∃ A c, e = .returned (.tuple #[.slice A (packR ls).1.length c, .int .i64 (packR ls).2]) ∧ OwnB w' w.heap.size (.slice A (packR ls).1.length c) (packR ls).1 ∧ Below w.heap.size w w'

set_option maxRecDepth 100000 in
set_option maxHeartbeats 4000000 in
theorem pack_proof {A : Option Addr} {cA : Nat} {vs : List Value} {ls : List (List UInt8)} (w : World) (h : SLs w A vs ls) (hn : ls.length ≤ 1099511627776) (hl : ∀ l ∈ ls, l.length ≤ 1099511627776) :
    Calls Try.prog 41 #[.slice A ls.length cA] w (PackPost w ls) := by
  have HC := Lib.hid (packed_any (cA := cA) w h hn hl)
  clear h hn hl
  go_enter Try.func41, Try.ntmps41
  go_wp2_with fail
  refine HC.out.mono ?_
  rintro en w1 ⟨b, ok, l, rfl, ho, hb, hor⟩
  obtain ⟨A1, c1, rfl, -⟩ := ho.form
  have HO := Lib.hid ho
  have HB := Lib.hid hb
  clear ho hb
  rcases hor with ⟨rfl, hp⟩ | ⟨rfl, hp⟩
  · have HP := Lib.hid hp
    clear hp
    go_wp2_with fail
    refine bodyPost_ret (v := .tuple #[.slice A1 l.length c1, .int .i64 0]) (by simp [results, Try.results41, go_sem]) rfl ?_
    unfold PackPost
    rw [HP.out]
    exact ⟨_, _, rfl, HO.out, HB.out⟩
  · have HP := Lib.hid hp
    clear hp
    go_wp2_with fail
    refine bodyPost_ret (v := .tuple #[.slice none 0 0, .int .i64 2]) (by simp [results, Try.results41, go_sem]) rfl ?_
    unfold PackPost
    rw [HP.out]
    exact ⟨none, 0, rfl, OwnB.nil _ _, HB.out⟩
end Go.Proofs.Ytdhkhdeblkbojaa
set_option linter.unusedSimpArgs false
namespace Go.Proofs.Ytdhkhdeblkbojaa
open Go.RowKit
attribute [local go_sem ↓] Go.wp_at_zero Go.wp_at_succ
attribute [local go_sem] size_gr cell_gr frozen_gr setCell_gr gr_drew gr_drewN lt_k lt_kc le_k le_kc sub_kc

set_option maxRecDepth 100000 in
set_option maxHeartbeats 8000000 in
theorem refpack_any {A : Option Addr} {cA : Nat} {vs : List Value} {ls : List (List UInt8)} (w : World) (h : SLs w A vs ls) (hn : ls.length ≤ 1099511627776) (hl : ∀ l ∈ ls, l.length ≤ 1099511627776) :
    Calls Try.prog 42 #[.slice A ls.length cA] w (PackPost w ls) := by
  have HS := Lib.hid h
  have HL := Lib.hid (fun i (hi : i < ls.length) => hl ls[i] (List.getElem_mem hi))
  clear h hl
  go_enter Try.func42, Try.ntmps42
  go_wp2_with fail
  go_loop [4, 5] (fun s v => ∃ i : Nat, i ≤ ls.length ∧ v = .int .i64 i ∧ s = .int .i64 (totL (ls.take i) : Int) ∧ (ls.take i).all okS = true ∧ totL (ls.take i) ≤ 132096) (fun _ v => ls.length - (intOf v).toNat)
  case atStart => exact ⟨0, by omega, rfl, by simp [totL], by simp, by simp [totL]⟩
  case round =>
    obtain ⟨i, hi, rfl, rfl, hok, htot⟩ := hrel
    have HOk := Lib.hid hok
    clear hok
    by_cases hi1 : i < ls.length
    · obtain ⟨b, off, A1, c1, rfl, hc, hv, -, hbw⟩ := SLs.at HS.out hi1
      obtain ⟨t1, t2, -⟩ := take_ok hi1
      have hll := HL.out i hi1
      have h1i : (i : Int) < (ls.length : Int) := by omega
      have hi0 : (0 : Int) ≤ (i : Int) := by omega
      have HT1 := Lib.hid t1
      have HT2 := Lib.hid t2
      have HTT : Hid (totL (ls.take i) ≤ totL ls) := tot_take ls i
      generalize totL (ls.take i) = tt at *
      clear hv t1 t2
      by_cases hk : okS ls[i] = true ∧ tt ≤ 131072
      · obtain ⟨hk1, hk2⟩ := hk
        have HK := Lib.hid hk1
        simp only [okS, Bool.and_eq_true, decide_eq_true_eq] at hk1
        obtain ⟨k1, k2⟩ := hk1
        have k1i : ¬ (ls[i].length : Int) < 1 := by omega
        have k2i : ¬ (1024 : Int) < (ls[i].length : Int) := by omega
        have k3i : ¬ (131072 : Int) < (tt : Int) := by omega
        go_wp2_with fail
        exact ⟨⟨i + 1, by omega, by go_num, by rw [HT2.out]; go_num, HT1.out.2 ⟨HOk.out, HK.out⟩, by rw [HT2.out]; omega⟩, by simp [intOf]; omega⟩
      · have HH : Hid (packR ls = ([], 2)) := packR_bad (fun h h' _ => hk ⟨by rw [List.all_eq_true] at h; exact h ls[i] (List.getElem_mem hi1), by have := HTT.out; omega⟩)
        by_cases k1 : ls[i].length < 1
        · have k1i : (ls[i].length : Int) < 1 := by omega
          clear hk k1
          go_wp2_with fail
          refine bodyPost_ret (v := .tuple #[.slice none 0 0, .int .i64 2]) (by simp [results, Try.results42, go_sem]) rfl ?_
          unfold PackPost
          rw [HH.out]
          exact ⟨none, 0, rfl, OwnB.nil _ _, Below.refl _ _⟩
        · have k1i : ¬ (ls[i].length : Int) < 1 := by omega
          by_cases k2 : 1024 < ls[i].length
          · have k2i : (1024 : Int) < (ls[i].length : Int) := by omega
            clear hk k1 k2
            go_wp2_with fail
            refine bodyPost_ret (v := .tuple #[.slice none 0 0, .int .i64 2]) (by simp [results, Try.results42, go_sem]) rfl ?_
            unfold PackPost
            rw [HH.out]
            exact ⟨none, 0, rfl, OwnB.nil _ _, Below.refl _ _⟩
          · have k2i : ¬ (1024 : Int) < (ls[i].length : Int) := by omega
            have k3i : (131072 : Int) < (tt : Int) := by
              by_cases h3 : tt ≤ 131072
              · exact absurd ⟨by simp [okS]; omega, h3⟩ hk
              · omega
            clear hk k1 k2
            go_wp2_with fail
            refine bodyPost_ret (v := .tuple #[.slice none 0 0, .int .i64 2]) (by simp [results, Try.results42, go_sem]) rfl ?_
            unfold PackPost
            rw [HH.out]
            exact ⟨none, 0, rfl, OwnB.nil _ _, Below.refl _ _⟩
    · obtain rfl : i = ls.length := by omega
      have h1i : ¬ (ls.length : Int) < (ls.length : Int) := by omega
      have htk : ls.take ls.length = ls := List.take_length
      have hok := HOk.out
      rw [htk] at hok htot
      rw [htk]
      clear HOk htk
      by_cases h2 : 131072 < totL ls
      · have HH : Hid (packR ls = ([], 2)) := packR_bad (fun _ h _ => by omega)
        have h2i : (131072 : Int) < (totL ls : Int) := by omega
        clear h2 hok
        go_wp2_with fail
        refine bodyPost_ret (v := .tuple #[.slice none 0 0, .int .i64 2]) (by simp [results, Try.results42, go_sem]) rfl ?_
        unfold PackPost
        rw [HH.out]
        exact ⟨none, 0, rfl, OwnB.nil _ _, Below.refl _ _⟩
      · have h2i : ¬ (131072 : Int) < (totL ls : Int) := by omega
        have hbl := body_len hok
        have HOk := Lib.hid hok
        have hlb := listB_le hok (by omega)
        have hbt : ∀ i, (bodyB (ls.take i)).length ≤ 1048576 := fun i => by
          have h1 := body_len (all_take hok i)
          have h2 := tot_take ls i
          omega
        have HBt := Lib.hid hbt
        clear hok hbt
        go_wp2_with fail
        go_loopw [6, 7] (fun bv_ v wr => ∃ (i : Nat) (A1 : Option Addr) (c1 : Nat) (D : Dl), i ≤ ls.length ∧ v = .int .i64 i ∧ bv_ = .slice A1 (bodyB (ls.take i)).length c1 ∧ wr = w.gr D ∧ OwnB (w.gr D) w.heap.size (.slice A1 (bodyB (ls.take i)).length c1) (bodyB (ls.take i))) (fun _ v _ => ls.length - (intOf v).toNat)
        case atStart => exact ⟨0, none, 0, Dl.nil w, by omega, rfl, by simp [bodyB], (gr_nil w).symm, by simpa [bodyB] using OwnB.nil _ _⟩
        case round =>
          obtain ⟨i, A2, c2, D, hi, rfl, rfl, rfl, ho⟩ := hrel
          have hbi := HBt.out i
          by_cases hi1 : i < ls.length
          · obtain ⟨b, off, A1, c1, rfl, hc, hv, hs, hbw⟩ := SLs.at HS.out hi1
            obtain ⟨-, -, t3⟩ := take_ok hi1
            have hokl : okS ls[i] = true := by have := HOk.out; rw [List.all_eq_true] at this; exact this ls[i] (List.getElem_mem hi1)
            simp only [okS, Bool.and_eq_true, decide_eq_true_eq] at hokl
            obtain ⟨k1, k2⟩ := hokl
            have h1i : (i : Int) < (ls.length : Int) := by omega
            have hi0 : (0 : Int) ≤ (i : Int) := by omega
            have HT3 := Lib.hid t3
            have HSb := Lib.hid hs
            have HO := Lib.hid ho
            have hseq := strB_eq ls[i]
            have hbi1 := HBt.out (i + 1)
            rw [t3, List.length_append] at hbi1
            generalize bodyB (ls.take i) = bo at *
            generalize hlx : ls[i] = lx at *
            clear t3 hv hs ho hlx
            by_cases h3 : lx.length = 1 ∧ (lx.getD 0 0).toNat < 128
            · rw [if_pos h3] at hseq
              have HSeq := Lib.hid hseq
              match lx, h3, HSb, HT3, HSeq, hc with
              | [x], h3, HSb, HT3, HSeq, hc =>
              obtain ⟨b1, o1, rfl, hc1, hb1⟩ := sb_cell0 HSb.out
              have hx : ¬ (128 : Int) ≤ (x.toNat : Int) := by simp at h3; omega
              clear h3 hseq k1 k2
              go_wp2_with (at_builtin; go_must (refine ap_own bo [x] (bo ++ strB [x]) (bo.length + 1) (by rw [HSeq.out]) (by rw [HSeq.out]; simp) rfl rfl rfl (by rfl) HO.out (by rfl) (HSb.out.below (by (repeat (first | exact Below.refl _ _ | refine bg_al ?_ | refine bg_gr ?_ | refine bg_drn ?_ | refine bg_dr ?_ | assumption)))) (by simp; omega) ?_); intro D7 A7 c7 ho7 hc7 hm7)
              have hN : (bodyB (ls.take (i + 1))).length = bo.length + 1 := by rw [HT3.out, HSeq.out]; simp
              exact ⟨⟨i + 1, A7, c7, D7, by omega, by go_num, by rw [hN], rfl, by rw [hN, HT3.out]; exact ho7 _ (at_base rfl)⟩, by simp [intOf]; omega⟩
            · rw [if_neg h3] at hseq
              have HSeq := Lib.hid hseq
              have hcnd : Hid (1 < lx.length ∨ (∃ x, lx = [x] ∧ 128 ≤ x.toNat)) := by
                show _ ∨ _
                match lx, h3, k1 with
                | [x], h3, _ => exact .inr ⟨x, rfl, by simp at h3; omega⟩
                | x :: y :: r, _, _ => exact .inl (by simp)
              have hbi2 : (headB lx.length 128).length ≤ 3 := head_len 128 k2
              have HC := Lib.hid (fun W => pheader_any lx.length 128 (.inl rfl) (by omega) W)
              clear h3 hseq
              rcases hcnd.out with h1 | ⟨x, rfl, h1⟩
              · have h1' : (1 : Int) < (lx.length : Int) := by omega
                clear h1 hcnd
                go_wp2_with (first
                  | (go_at_call 68; refine (HC.out _).mono ?_; rintro en w1 ⟨v, rfl, hoh, hbh⟩; have ho6 := HO.out.below hbh; obtain ⟨D1, rfl⟩ := gr_of_below (bel_trans (below_gr w D) hbh); obtain ⟨Ah, ch, rfl, -⟩ := hoh.form; clear hbh)
                  | (at_builtin; have _t := ho7; refine ap_own (bo ++ headB lx.length 128) lx (bo ++ strB lx) (bo.length + (headB lx.length 128).length + lx.length) (by rw [HSeq.out, List.append_assoc]) (by rw [HSeq.out]; simp [Nat.add_assoc]) rfl rfl rfl (by rfl) (ho7 _ (at_base rfl)) (by rfl) (HSb.out.below (by (repeat (first | exact Below.refl _ _ | refine bg_al ?_ | refine bg_gr ?_ | refine bg_drn ?_ | refine bg_dr ?_ | assumption)))) (by simp; omega) ?_; intro D8 A8 c8 ho8 hc8 hm8)
                  | (at_builtin; refine ap_own bo (headB lx.length 128) (bo ++ headB lx.length 128) (bo.length + (headB lx.length 128).length) rfl (by simp) rfl rfl rfl (by rfl) ho6 (by rfl) hoh.sb (by omega) ?_; intro D7 A7 c7 ho7 hc7 hm7))
                have hN : (bodyB (ls.take (i + 1))).length = bo.length + (headB lx.length 128).length + lx.length := by rw [HT3.out, HSeq.out]; simp [Nat.add_assoc]
                exact ⟨⟨i + 1, A8, c8, D8, by omega, by go_num, by rw [hN], rfl, by rw [hN, HT3.out]; exact ho8 _ (at_base rfl)⟩, by simp [intOf]; omega⟩
              · obtain ⟨b1, o1, rfl, hc1, hb1⟩ := sb_cell0 HSb.out
                have h1' : (128 : Int) ≤ (x.toNat : Int) := by omega
                have HC1 := Lib.hid (fun W => pheader_any 1 128 (.inl rfl) (by omega) W)
                have hbi3 : (headB 1 128).length ≤ 3 := hbi2
                clear h1 hcnd hbi2 HC
                go_wp2_with (first
                  | (go_at_call 68; refine (HC1.out _).mono ?_; rintro en w1 ⟨v, rfl, hoh, hbh⟩; have ho6 := HO.out.below hbh; obtain ⟨D1, rfl⟩ := gr_of_below (bel_trans (below_gr w D) hbh); obtain ⟨Ah, ch, rfl, -⟩ := hoh.form; clear hbh)
                  | (at_builtin; have _t := ho7; refine ap_own (bo ++ headB 1 128) [x] (bo ++ strB [x]) (bo.length + (headB 1 128).length + 1) (by rw [HSeq.out, List.append_assoc]; rfl) (by rw [HSeq.out]; simp [Nat.add_assoc]) rfl rfl rfl (by rfl) (ho7 _ (at_base rfl)) (by rfl) (HSb.out.below (by (repeat (first | exact Below.refl _ _ | refine bg_al ?_ | refine bg_gr ?_ | refine bg_drn ?_ | refine bg_dr ?_ | assumption)))) (by simp; omega) ?_; intro D8 A8 c8 ho8 hc8 hm8)
                  | (at_builtin; refine ap_own bo (headB 1 128) (bo ++ headB 1 128) (bo.length + (headB 1 128).length) rfl (by simp) rfl rfl rfl (by rfl) ho6 (by rfl) hoh.sb (by omega) ?_; intro D7 A7 c7 ho7 hc7 hm7))
                have hN : (bodyB (ls.take (i + 1))).length = bo.length + (headB 1 128).length + 1 := by rw [HT3.out, HSeq.out]; simp [Nat.add_assoc]
                exact ⟨⟨i + 1, A8, c8, D8, by omega, by go_num, by rw [hN], rfl, by rw [hN, HT3.out]; exact ho8 _ (at_base rfl)⟩, by simp [intOf]; omega⟩
          · obtain rfl : i = ls.length := by omega
            have h1i : ¬ (ls.length : Int) < (ls.length : Int) := by omega
            have htk : ls.take ls.length = ls := List.take_length
            rw [htk] at ho hbi
            rw [htk]
            have HO := Lib.hid ho
            have HLB : Hid (listB ls = headB (bodyB ls).length 192 ++ bodyB ls) := rfl
            have hhl : (headB (bodyB ls).length 192).length ≤ 1048576 := by rw [HLB.out, List.length_append] at hlb; omega
            have HC := Lib.hid (fun W => pheader_any (bodyB ls).length 192 (.inr rfl) (by omega) W)
            clear ho htk
            by_cases h3 : 131072 < (listB ls).length
            · have h3i : (131072 : Int) < ((listB ls).length : Int) := by omega
              have HP : Hid (packR ls = ([], 2)) := packR_bad (fun _ _ h => by omega)
              clear h3
              go_wp2_with (first
                | (go_at_call 68; refine (HC.out _).mono ?_; rintro en w1 ⟨v, rfl, hoh, hbh⟩; have ho6 := HO.out.below hbh; have hoh2 := hoh.mono (base' := w.heap.size) (by rw [size_gr]; omega); obtain ⟨D1, rfl⟩ := gr_of_below (bel_trans (below_gr w D) hbh); obtain ⟨Ah, ch, rfl, -⟩ := hoh.form; clear hbh hoh)
                | (at_builtin; refine ap_own (headB (bodyB ls).length 192) (bodyB ls) (listB ls) (listB ls).length rfl rfl rfl rfl rfl (by rfl) hoh2 (by rfl) ho6.sb (by omega) ?_; intro D7 A7 c7 ho7 hc7 hm7))
              have HO7 := Lib.hid (ho7 (w.gr D7) (at_base rfl))
              clear ho7 ho6 hoh2
              refine bodyPost_ret (v := .tuple #[.slice none 0 0, .int .i64 2]) (by simp [results, Try.results42, go_sem]) rfl ?_
              unfold PackPost
              rw [HP.out]
              exact ⟨none, 0, rfl, OwnB.nil _ _, by (repeat (first | exact Below.refl _ _ | refine bg_al ?_ | refine bg_gr ?_ | refine bg_drn ?_ | refine bg_dr ?_ | assumption))⟩
            · have h3i : ¬ (131072 : Int) < ((listB ls).length : Int) := by omega
              have HP : Hid (packR ls = (listB ls, 0)) := packR_ok HOk.out (by omega) (by omega)
              clear h3
              go_wp2_with (first
                | (go_at_call 68; refine (HC.out _).mono ?_; rintro en w1 ⟨v, rfl, hoh, hbh⟩; have ho6 := HO.out.below hbh; have hoh2 := hoh.mono (base' := w.heap.size) (by rw [size_gr]; omega); obtain ⟨D1, rfl⟩ := gr_of_below (bel_trans (below_gr w D) hbh); obtain ⟨Ah, ch, rfl, -⟩ := hoh.form; clear hbh hoh)
                | (at_builtin; refine ap_own (headB (bodyB ls).length 192) (bodyB ls) (listB ls) (listB ls).length rfl rfl rfl rfl rfl (by rfl) hoh2 (by rfl) ho6.sb (by omega) ?_; intro D7 A7 c7 ho7 hc7 hm7))
              have HO7 := Lib.hid (ho7 (w.gr D7) (at_base rfl))
              clear ho7 ho6 hoh2
              refine bodyPost_ret (v := .tuple #[.slice A7 (listB ls).length c7, .int .i64 0]) (by simp [results, Try.results42, go_sem]) rfl ?_
              unfold PackPost
              rw [HP.out]
              exact ⟨_, _, rfl, HO7.out, by (repeat (first | exact Below.refl _ _ | refine bg_al ?_ | refine bg_gr ?_ | refine bg_drn ?_ | refine bg_dr ?_ | assumption))⟩
end Go.Proofs.Ytdhkhdeblkbojaa
