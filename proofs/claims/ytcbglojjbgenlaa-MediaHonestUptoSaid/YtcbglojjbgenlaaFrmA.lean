/- From the form's reading of the arguments to the words of the walks. From the form's reading of a script to its ops. From the form's reading of a script to its ops: the list. -/
import Derived.Test.YtcbglojjbgenlaaLib
import Derived.Test.YtcbglojjbgenlaaRows
import Derived.ProofKit
import Derived.OpenShut
import Derived.ShutString
import Derived.ChangeOld
import Derived.SizedLaws
import Derived.JoinedCond
import Derived.Deep.CondSized
import Derived.Test.YtcbglojjbgenlaaHnE
import Derived.Deep.Strs
import Derived.Deep.Slices
namespace Go.Proofs.Ytcbglojjbgenlaa
open Go.ChangeShapes Go.WideShapes Go.ChangeAt Go.RowKit

theorem Fr.own : ownKnob Try.prog.godebug = none := by kernel_rfl
theorem Fr.laidOut : laidOutB Try.prog = true := by kernel_rfl

theorem view_bytes {H : Type} {enc : TypeId × Value → H} {W : World} {base : Nat} {spare : Nat → Bool} {held : Bool} {fuel : Nat} {a : Option Addr} {len cap : Nat} {x : DataW H × List MemPlace}
    (h : DataW.trod enc Try.prog W base spare held fuel 29 [.slice a len cap] = some x) :
    ∃ l : List UInt8, l.length = len ∧ SB W (.slice a len cap) l ∧ ((x.1 = .nil ∧ len = 0) ∨ ∃ el sp, x.1 = .slice el sp ∧ el.length = len) := by
  rcases open_ints Try.underlying29 Try.underlying5 (by kernel_rfl) h with ⟨hcs, hx⟩ | ⟨ad, l, c, zs, hcs, _, hl, hm, hz, hx, hcell, hwz⟩
  · simp at hcs
    obtain ⟨rfl, rfl, rfl⟩ := hcs
    exact ⟨[], rfl, SB.nil W, .inl ⟨by rw [hx], rfl⟩⟩
  · simp at hcs
    obtain ⟨rfl, rfl, rfl⟩ := hcs
    have hzl : len ≤ zs.length := by rw [hz]; split <;> omega
    have hll : ((zs.take len).map fun n => UInt8.ofNat n.toNat).length = len := by simp; omega
    refine ⟨(zs.take len).map fun n => UInt8.ofNat n.toNat, hll, ⟨some ad, cap, by rw [hll], fun k hk => ?_, by rw [hll]; exact hl, hm, fun e => by cases e⟩, .inr ⟨_, _, by rw [hx], by simp [lits]; omega⟩⟩
    have hk' : k < len := by rw [hll] at hk; exact hk
    have hc := hcell k (by omega)
    obtain ⟨b, off, spot⟩ := ad
    have hspot : spot = none := by
      have h0 := hcell 0 (by omega)
      have := World.cell?_spot h0
      simpa [Addr.add] using this
    subst hspot
    rw [addr_add] at hc
    refine ⟨b, off, rfl, ?_⟩
    rw [hc]
    have hw := hwz (zs.getD k 0) (by
      have hkz : k < zs.length := by omega
      simp [List.getD, hkz])
    have hb : 0 ≤ zs.getD k 0 ∧ zs.getD k 0 < 256 := by
      have := bounds_u8 hw
      omega
    have hget : (((zs.take len).map fun n => UInt8.ofNat n.toNat)[k]'hk) = UInt8.ofNat (zs.getD k 0).toNat := by
      have hkz : k < zs.length := by omega
      simp [List.getD, hkz]
    rw [hget]
    simp only [UInt8.toNat_ofNat']
    congr 2
    omega

/-- what the bound on the arguments gives -/
theorem bulk_one {H : Type} (d : DataW H) : 1 ≤ Rows.uptoBulk d := by
  cases d with
  | lit l => cases l <;> simp [Rows.uptoBulk]
  | _ => simp [Rows.uptoBulk]
theorem bulk_length {H : Type} (l : List (DataW H)) : l.length ≤ Rows.uptoBulkAll l := by
  induction l with
  | nil => simp [Rows.uptoBulkAll]
  | cons x r ih => have := bulk_one x; simp only [Rows.uptoBulkAll, List.length_cons]; omega
theorem bulk_slice {H : Type} (el sp : List (DataW H)) : el.length + 1 ≤ Rows.uptoBulk (.slice el sp) := by
  have h1 := bulk_length el
  simp only [Rows.uptoBulk]
  omega
theorem bulk_bound {H : Type} {l : List (DataW H)} (hk : Rows.uptoSmall H l = true) : Rows.uptoBulkAll l ≤ 1048576 := of_decide_eq_true hk
theorem bulk_bytes {H : Type} {d : DataW H} {len : Nat} (h : (d = .nil ∧ len = 0) ∨ ∃ el sp, d = .slice el sp ∧ el.length = len) : len ≤ Rows.uptoBulk d := by
  rcases h with ⟨_, rfl⟩ | ⟨el, sp, rfl, rfl⟩
  · omega
  · have := bulk_slice el sp; omega
end Go.Proofs.Ytcbglojjbgenlaa
namespace Go.Proofs.Ytcbglojjbgenlaa
open Go.ChangeShapes Go.WideShapes Go.ChangeAt Go.RowKit Go.Deep

section
variable {H : Type} {enc : TypeId × Value → H} {W : World} {base : Nat} {spare : Nat → Bool} {held : Bool} {fuel : Nat}

set_option maxRecDepth 100000 in
theorem view_u8 {c : Value} {x : DataW H × List MemPlace} (h : DataW.trod enc Try.prog W base spare held fuel 5 [c] = some x) : ∃ b : UInt8, c = bv b := by
  cases fuel with
  | zero => simp [DataW.trod] at h
  | succ n =>
    unfold DataW.trod at h
    rw [Try.underlying5] at h
    cases c <;> simp at h
    rename_i k z
    obtain ⟨⟨rfl, hw⟩, -⟩ := h
    have hb := bounds_u8 hw
    refine ⟨UInt8.ofNat z.toNat, ?_⟩
    simp only [bv, UInt8.toNat_ofNat']
    congr 1
    omega
set_option maxRecDepth 100000 in
theorem view_int {t : TypeId} {k : IntKind} (ht : (Try.prog).underlying t = some (.int k)) {c : Value} {x : DataW H × List MemPlace} (h : DataW.trod enc Try.prog W base spare held fuel t [c] = some x) : ∃ z, c = .int k z := by
  cases fuel with
  | zero => simp [DataW.trod] at h
  | succ n =>
    unfold DataW.trod at h
    rw [ht] at h
    cases c <;> simp at h
    rename_i k' z
    obtain ⟨⟨rfl, hw⟩, -⟩ := h
    exact ⟨z, rfl⟩
theorem mapM_get {α β : Type} {f : α → Option β} : ∀ {l : List α} {ys : List β}, l.mapM f = some ys → ∀ a ∈ l, ∃ y, f a = some y
  | [], _, _, a, ha => by cases ha
  | x :: r, ys, h, a, ha => by
    rw [List.mapM_cons] at h
    cases hx : f x with
    | none => rw [hx] at h; simp at h
    | some y =>
      rw [hx] at h
      cases hr : r.mapM f with
      | none => rw [hr] at h; simp at h
      | some zs =>
        rcases List.mem_cons.1 ha with rfl | ha
        · exact ⟨y, hx⟩
        · exact mapM_get hr a ha
theorem bytes_of : ∀ (cs : List Value), (∀ c ∈ cs, ∃ b : UInt8, c = bv b) → ∃ l : List UInt8, cs = l.map bv
  | [], _ => ⟨[], rfl⟩
  | c :: r, h => by
    obtain ⟨b, rfl⟩ := h c (by simp)
    obtain ⟨l, rfl⟩ := bytes_of r (fun c hc => h c (by simp [hc]))
    exact ⟨b :: l, rfl⟩
set_option maxRecDepth 100000 in
theorem view_hash {cs : List Value} {x : DataW H × List MemPlace} (h : DataW.trod enc Try.prog W base spare held fuel 33 cs = some x) : ∃ q : H32, cs = q.1.map bv := by
  cases fuel with
  | zero => simp [DataW.trod] at h
  | succ n =>
    unfold DataW.trod at h
    rw [Try.underlying33] at h
    simp only [hashCells, byteCells, Nat.mul_one] at h
    split at h
    · next hl =>
      rw [Option.map_eq_some_iff] at h
      obtain ⟨xs, hm, -⟩ := h
      have hc : ∀ c ∈ cs, ∃ b : UInt8, c = bv b := fun c hc => by
        obtain ⟨i, hi, rfl⟩ := List.mem_iff_getElem.1 hc
        obtain ⟨y, hy⟩ := mapM_get hm i (List.mem_range.2 (by omega))
        rw [List.drop_eq_getElem_cons hi, List.take_succ_cons, List.take_zero] at hy
        exact view_u8 hy
      obtain ⟨l, rfl⟩ := bytes_of cs hc
      exact ⟨⟨l, by simpa using hl⟩, rfl⟩
    · cases h
set_option maxRecDepth 100000 in
theorem view_reg {cs : List Value} {x : DataW H × List MemPlace} (h : DataW.trod enc Try.prog W base spare held fuel 39 cs = some x) : ∃ c t, cs = regC c t := by
  obtain ⟨y0, y1, n, rfl, hl, h0, h1⟩ := trod_struct2 Try.underlying39 h
  have hc33 : (Try.prog).cellsOf 39 = 33 := by kernel_rfl
  have hci : (Try.prog).cellsOf 2 = 1 := by kernel_rfl
  rw [hc33] at hl
  change DataW.trod enc Try.prog W base spare held n 2 ((cs.drop 0).take (Try.prog.cellsOf 2)) = _ at h0
  change DataW.trod enc Try.prog W base spare held n 33 ((cs.drop 1).take (Try.prog.cellsOf 33)) = _ at h1
  rw [hci] at h0
  rw [hashCells] at h1
  match cs, hl with
  | c :: r, hl =>
    simp only [List.drop_zero, List.take_succ_cons, List.take_zero, List.drop_succ_cons] at h0 h1
    have hr : r.length = 32 := by simpa using hl
    rw [List.take_of_length_le (by omega)] at h1
    obtain ⟨z, rfl⟩ := view_int Try.underlying2 h0
    obtain ⟨q, rfl⟩ := view_hash h1
    exact ⟨z, q, rfl⟩
set_option maxRecDepth 100000 in
theorem view_op {cs : List Value} {x : DataW H × List MemPlace} (h : DataW.trod enc Try.prog W base spare held fuel 66 cs = some x) : ∃ o : Opv, cs = opC o ∧ SB W o.da o.data ∧ o.data.length ≤ Rows.uptoBulk x.1 := by
  obtain ⟨xs, n, _, rfl, hl, hlen, hf⟩ := DataW.trod_struct Try.underlying66 h
  have hc69 : (Try.prog).cellsOf 66 = 69 := by kernel_rfl
  have hci : (Try.prog).cellsOf 3 = 1 := by kernel_rfl
  have hcr : (Try.prog).cellsOf 39 = 33 := by kernel_rfl
  have hcs : (Try.prog).cellsOf 29 = 1 := by kernel_rfl
  have hcc : (Try.prog).cellsOf 28 = 1 := by kernel_rfl
  rw [hc69] at hl
  match xs, hlen with
  | [y0, y1, y2, y3, y4, y5], _ =>
    have h0 : DataW.trod enc Try.prog W base spare held n 3 ((cs.drop 0).take (Try.prog.cellsOf 3)) = some y0 := by simpa using hf 0 _ rfl
    have h1 : DataW.trod enc Try.prog W base spare held n 33 ((cs.drop 1).take (Try.prog.cellsOf 33)) = some y1 := by simpa using hf 1 _ rfl
    have h2 : DataW.trod enc Try.prog W base spare held n 29 ((cs.drop 33).take (Try.prog.cellsOf 29)) = some y2 := by simpa using hf 2 _ rfl
    have h3 : DataW.trod enc Try.prog W base spare held n 3 ((cs.drop 34).take (Try.prog.cellsOf 3)) = some y3 := by simpa using hf 3 _ rfl
    have h4 : DataW.trod enc Try.prog W base spare held n 39 ((cs.drop 35).take (Try.prog.cellsOf 39)) = some y4 := by simpa using hf 4 _ rfl
    have h5 : DataW.trod enc Try.prog W base spare held n 28 ((cs.drop 68).take (Try.prog.cellsOf 28)) = some y5 := by simpa using hf 5 _ rfl
    rw [hci] at h0 h3
    rw [hashCells] at h1
    rw [hcs] at h2
    rw [hcr] at h4
    rw [hcc] at h5
    rw [List.drop_eq_getElem_cons (by omega : 0 < cs.length)] at h0
    rw [List.drop_eq_getElem_cons (by omega : 33 < cs.length)] at h2
    rw [List.drop_eq_getElem_cons (by omega : 34 < cs.length)] at h3
    rw [List.drop_eq_getElem_cons (by omega : 68 < cs.length)] at h5
    simp only [List.take_succ_cons, List.take_zero] at h0 h2 h3 h5
    obtain ⟨k, e0⟩ := view_int Try.underlying3 h0
    obtain ⟨q, e1⟩ := view_hash h1
    obtain ⟨m, e3⟩ := view_int Try.underlying3 h3
    obtain ⟨c, t, e4⟩ := view_reg h4
    obtain ⟨dA, dn, dc, e2⟩ : ∃ A n c, cs[33] = .slice A n c := by
      rcases open_slice Try.underlying29 h2 with ⟨e, _⟩ | ⟨a, len, cap, _, _, _, _, e, _⟩
      · simp at e; exact ⟨_, _, _, e⟩
      · simp at e; exact ⟨_, _, _, e⟩
    rw [e2] at h2
    obtain ⟨l, rfl, hs, hd⟩ := view_bytes h2
    refine ⟨⟨k, q, dA, dc, l, m, c, t, cs[68]⟩, ?_, hs, ?_⟩
    · apply List.ext_getElem?
      intro j
      have hlo := opC_len ⟨k, q, dA, dc, l, m, c, t, cs[68]⟩
      by_cases hj : j < 69
      · rcases Nat.lt_or_ge j 1 with g | g
        · have : j = 0 := by omega
          subst this
          rw [List.getElem?_eq_getElem (by omega), e0]
          rfl
        · rcases Nat.lt_or_ge j 33 with g2 | g2
          · have := congrArg (fun l => l[j - 1]?) e1
            simp only [List.getElem?_take, List.getElem?_drop] at this
            rw [if_pos (by omega), show 1 + (j - 1) = j by omega] at this
            rw [this, opC, List.getElem?_append_right (by simp; omega), List.getElem?_append_left (by simp [q.2]; omega)]
            simp
          · obtain ⟨i, rfl⟩ : ∃ i, j = 33 + i := ⟨j - 33, by omega⟩
            rw [opC_at]
            rcases Nat.lt_or_ge i 1 with g3 | g3
            · have : i = 0 := by omega
              subst this
              rw [List.getElem?_eq_getElem (by omega), e2]
              rfl
            · rcases Nat.lt_or_ge i 2 with g4 | g4
              · have : i = 1 := by omega
                subst this
                rw [List.getElem?_eq_getElem (by omega), e3]
                rfl
              · rcases Nat.lt_or_ge i 35 with g5 | g5
                · have := congrArg (fun l => l[i - 2]?) e4
                  simp only [List.getElem?_take, List.getElem?_drop] at this
                  rw [if_pos (by omega), show 35 + (i - 2) = 33 + i by omega] at this
                  rw [this, List.getElem?_append_right (by simp; omega), List.getElem?_append_left (by simp [reg_len]; omega)]
                  simp
                · have : i = 35 := by omega
                  subst this
                  rw [List.getElem?_eq_getElem (by omega), List.getElem?_append_right (by simp), List.getElem?_append_right (by simp [reg_len])]
                  simp [reg_len]
      · rw [List.getElem?_eq_none (by omega), List.getElem?_eq_none (by omega)]
    · have := bulk_bytes hd
      have e : Rows.uptoBulk (DataW.agg [y0.1, y1.1, y2.1, y3.1, y4.1, y5.1]) = 1 + (Rows.uptoBulk y0.1 + (Rows.uptoBulk y1.1 + (Rows.uptoBulk y2.1 + (Rows.uptoBulk y3.1 + (Rows.uptoBulk y4.1 + (Rows.uptoBulk y5.1 + 0)))))) := by simp only [Rows.uptoBulk, Rows.uptoBulkAll]; try omega
      have e' : Rows.uptoBulk (DataW.agg (List.map (fun x => x.1) [y0, y1, y2, y3, y4, y5])) = Rows.uptoBulk (DataW.agg [y0.1, y1.1, y2.1, y3.1, y4.1, y5.1]) := rfl
      show l.length ≤ _
      first | omega | (rw [e', e]; omega)
end
end Go.Proofs.Ytcbglojjbgenlaa
namespace Go.Proofs.Ytcbglojjbgenlaa
open Go.ChangeShapes Go.WideShapes Go.ChangeAt Go.RowKit Go.Deep

theorem bulkAll_app {H : Type} (p q : List (DataW H)) : Rows.uptoBulkAll (p ++ q) = Rows.uptoBulkAll p + Rows.uptoBulkAll q := by
  induction p with
  | nil => simp [Rows.uptoBulkAll]
  | cons x r ih => simp only [List.cons_append, Rows.uptoBulkAll, ih]; omega
theorem last_got {α : Type} (l : List α) (a : α) (i : Nat) (h : i < (l ++ [a]).length) (hi : i = l.length) : (l ++ [a])[i] = a := by
  subst hi
  simp
theorem mapM_at {α β : Type} {f : α → Option β} : ∀ {l : List α} {ys : List β}, l.mapM f = some ys → ys.length = l.length ∧ ∀ i (h : i < l.length) (h' : i < ys.length), f l[i] = some ys[i]
  | [], ys, h => by
    rw [List.mapM_nil] at h
    injection h with h
    subst h
    exact ⟨rfl, fun i h => by simp at h⟩
  | x :: r, ys, h => by
    rw [List.mapM_cons] at h
    cases hx : f x with
    | none => rw [hx] at h; simp at h
    | some y =>
      rw [hx] at h
      cases hr : r.mapM f with
      | none => rw [hr] at h; simp at h
      | some zs =>
        rw [hr] at h
        simp at h
        subst h
        obtain ⟨h1, h2⟩ := mapM_at hr
        refine ⟨by simp [h1], fun i hi hi' => ?_⟩
        cases i with
        | zero => exact hx
        | succ i => exact h2 i (by simpa using hi) (by simpa using hi')
theorem cellsN {W : World} {base : Nat} {a : Addr} {n : Nat} {cs : List Value} (h : W.cells? base a n = some cs) : cs.length = n ∧ ∀ j v, cs[j]? = some v → W.cell? (a.add j) = some v := by
  unfold World.cells? at h
  split at h
  · obtain ⟨h1, h2⟩ := mapM_at h
    rw [List.length_range] at h1
    refine ⟨h1, fun j v hj => ?_⟩
    obtain ⟨hj1, rfl⟩ := List.getElem?_eq_some_iff.1 hj
    have := h2 j (by rw [List.length_range]; omega) hj1
    rwa [List.getElem_range] at this
  · cases h
/-- a script as it lies -/
def OpsAt (w : World) (a : Option Addr) (ops : List Opv) : Prop := (∀ i (h : i < ops.length), ∃ b off, a = some ⟨b, off, none⟩ ∧ w.rangeAt b (off + i * 69) (opC ops[i])) ∧ ∀ o ∈ ops, SB w o.da o.data

set_option maxRecDepth 100000 in
theorem view_ops {H : Type} {enc : TypeId × Value → H} {W : World} {base : Nat} {spare : Nat → Bool} {held : Bool} {fuel : Nat} {a : Option Addr} {len cap : Nat} {x : DataW H × List MemPlace}
    (h : DataW.trod enc Try.prog W base spare held fuel 56 [.slice a len cap] = some x) :
    ∃ ops : List Opv, ops.length = len ∧ OpsAt W a ops ∧ (∀ o ∈ ops, o.data.length ≤ Rows.uptoBulk x.1) ∧ len ≤ Rows.uptoBulk x.1 ∧ len ≤ cap := by
  rcases open_slice Try.underlying56 h with ⟨e, hx⟩ | ⟨a', len', cap', m, n', D, Pl, e, hb, hlc, hcm, hm, hx, hall⟩
  · simp at e
    obtain ⟨rfl, rfl, rfl⟩ := e
    exact ⟨[], rfl, ⟨fun i hi => by simp at hi, fun o ho => by simp at ho⟩, fun l hl => by simp at hl, by omega, by omega⟩
  · simp at e
    obtain ⟨rfl, rfl, rfl⟩ := e
    have hc1 : Try.prog.cellsOf 66 = 69 := by kernel_rfl
    have hall2 : ∀ i, i < len → ∃ o : Opv, (∀ j v, (opC o)[j]? = some v → W.cell? (a'.add (i * 69 + j)) = some v) ∧ SB W o.da o.data ∧ o.data.length ≤ Rows.uptoBulk (D i) := fun i hi => by
      obtain ⟨cs', k1, k2⟩ := hall i (by rw [hm]; split <;> omega)
      rw [hc1] at k1
      obtain ⟨-, k3⟩ := cellsN k1
      obtain ⟨o, rfl, k4, k5⟩ := view_op k2
      refine ⟨o, fun j v hj => ?_, k4, k5⟩
      have := k3 j v hj
      rwa [add_add] at this
    have hE : ∀ j, j ≤ len → ∃ ops : List Opv, ops.length = j ∧ (∀ i (h : i < ops.length), ∀ j v, (opC ops[i])[j]? = some v → W.cell? (a'.add (i * 69 + j)) = some v) ∧ (∀ o ∈ ops, SB W o.da o.data) ∧ (∀ o ∈ ops, o.data.length ≤ Rows.uptoBulkAll ((List.range j).map D)) := by
      intro j
      induction j with
      | zero => intro _; exact ⟨[], rfl, fun i hi => by simp at hi, fun o ho => by simp at ho, fun o ho => by simp at ho⟩
      | succ j ihj =>
        intro hj
        obtain ⟨ops, e1, e2, e3, e4⟩ := ihj (by omega)
        obtain ⟨o, k1, k2, k3⟩ := hall2 j (by omega)
        have hbb : Rows.uptoBulkAll ((List.range (j + 1)).map D) = Rows.uptoBulkAll ((List.range j).map D) + Rows.uptoBulk (D j) := by
          rw [List.range_succ, List.map_append, bulkAll_app]
          simp [Rows.uptoBulkAll]
        refine ⟨ops ++ [o], by simp [e1], fun i hi => ?_, fun o' ho => ?_, fun o' ho => ?_⟩
        · by_cases hiv : i < ops.length
          · rw [List.getElem_append_left hiv]
            exact e2 i hiv
          · have hie : i = ops.length := by simp at hi; omega
            rw [last_got ops _ i hi hie, hie, e1]
            exact k1
        · rcases List.mem_append.1 ho with ho | ho
          · exact e3 o' ho
          · simp only [List.mem_singleton] at ho
            subst ho
            exact k2
        · rw [hbb]
          rcases List.mem_append.1 ho with ho | ho
          · have := e4 o' ho; omega
          · simp only [List.mem_singleton] at ho
            subst ho
            omega
    obtain ⟨ops, e1, e2, e3, e4⟩ := hE len (Nat.le_refl _)
    have h4 : Rows.uptoBulk x.1 = Rows.uptoBulkAll ((List.range len).map D) + Rows.uptoBulkAll ((List.range (m - len)).map fun j => D (len + j)) + 1 := by rw [hx]; simp only [Rows.uptoBulk]
    have h5 := bulk_length ((List.range len).map D)
    rw [List.length_map, List.length_range] at h5
    refine ⟨ops, e1, ⟨fun i hi => ?_, e3⟩, fun o ho => by have := e4 o ho; omega, by omega, hlc⟩
    obtain ⟨b, off, spot⟩ := a'
    have hspot : spot = none := by
      have h0 := e2 0 (by omega) 0 _ (opC_0 _)
      have := World.cell?_spot h0
      simpa [Addr.add] using this
    subst hspot
    refine ⟨b, off, rfl, fun j v hj => ?_⟩
    have := e2 i hi j v hj
    rw [addr_add] at this
    rw [Nat.add_assoc]
    exact this
end Go.Proofs.Ytcbglojjbgenlaa
