/- Items in memory; bytes.Clone. -/
import Derived.Test.YtdhkhdeblkbojaaRlpLen
import Derived.Test.YtdhkhdeblkbojaaApart
namespace Go.Proofs.Ytdhkhdeblkbojaa
open Go.RowKit
attribute [local go_sem ↓] Go.wp_at_zero Go.wp_at_succ

theorem itemsT : SlT Try.prog 44 46 (.agg #[.bool false, .slice none 0 0, .slice none 0 0]) 3 56 := ⟨Try.underlying44, by kernel_rfl, rfl, by decide⟩

theorem lit_at (w : World) (cs : Array Value) (e : TypeId) {size n base g : Nat} (hg : w.heap.size = g) (hb : base ≤ w.heap.size) (hm : n ≤ maxLen) (hs : cs.size = n * size) : (w.alloc (.cells cs e)).ownsRow base e size (.slice (some ⟨g, 0, none⟩) n n) n cs.toList := by
  subst hg
  exact own_lit w cs e hb hm hs

/-- An item as it stands in a row: its three cells, what it is, the strings within. -/
structure Ent where
  v0 : Value
  v1 : Value
  v2 : Value
  x : It
  sv : List Value
def Ent.cells (e : Ent) : List Value := [e.v0, e.v1, e.v2]

/-- The slice leads to a block of T. -/
def Fr (T : Nat → Prop) (v : Value) : Prop := ∀ a n c, v = .slice (some a) n c → T a.block

/-- Three cells read as an item, all of it in blocks of T; the last list: its strings' values. -/
inductive RdI (w : World) (T : Nat → Prop) : Value → Value → Value → It → List Value → Prop
  | mk (l : Bool) (v1 : Value) (bs : List UInt8) (A : Option Addr) (c : Nat) (E : List Ent) : SB w v1 bs → Fr T v1 → E.length ≤ c → c ≤ maxLen → (A = none → c = 0) → (∀ a, A = some a → T a.block) →
      Src w 3 (.slice A E.length c) E.length (E.flatMap Ent.cells) → (∀ e ∈ E, RdI w T e.v0 e.v1 e.v2 e.x e.sv) →
      RdI w T (.bool l) v1 (.slice A E.length c) (.mk l bs (E.map (·.x))) (v1 :: E.flatMap (·.sv))

theorem Src.chg {S : Nat → Prop} {w w' : World} {size : Nat} {A : Option Addr} {m c : Nat} {news : List Value} (h : Src w size (.slice A m c) m news) (hc : Chg S w w') (hs : ∀ a, A = some a → ¬ S a.block) : Src w' size (.slice A m c) m news := by
  obtain ⟨A', c', e, hl, hn⟩ := h
  injection e with e1 e2 e3
  subst e1 e3
  refine ⟨A, c, rfl, hl, fun j u hj => ?_⟩
  obtain ⟨ad, e, hcell⟩ := hn j u hj
  refine ⟨ad, e, ?_⟩
  have hb : (ad.add j).block = ad.block := by unfold Addr.add; split <;> rfl
  rw [World.cell?_of_block (hc.block (ad.add j).block (World.block_lt_of_cell? w _ hcell) (by rw [hb]; exact hs _ e))]
  exact hcell
theorem SB.chg {S T : Nat → Prop} {w w' : World} {v : Value} {l : List UInt8} (h : SB w v l) (hf : Fr T v) (hc : Chg S w w') (hs : ∀ k, S k → ¬ T k) : SB w' v l := by
  obtain ⟨A, c, rfl, hr, h1, h2⟩ := h
  exact ⟨A, c, rfl, hr.chg hc (fun a ha hS => by subst ha; exact hs _ hS (hf a _ _ rfl)), h1, h2⟩
theorem RdI.chg {S T : Nat → Prop} {w w' : World} {v0 v1 v2 : Value} {x : It} {sv : List Value} (h : RdI w T v0 v1 v2 x sv) (hc : Chg S w w') (hs : ∀ k, S k → ¬ T k) : RdI w' T v0 v1 v2 x sv := by
  induction h with
  | mk l v1 bs A c E h1 h1' h2 h3 h4 h4' h5 _ ih => exact RdI.mk l v1 bs A c E (h1.chg h1' hc hs) h1' h2 h3 h4 h4' (h5.chg hc (fun a ha hS => hs _ hS (h4' a ha))) ih
theorem RdI.kept {T : Nat → Prop} {w w' : World} {v0 v1 v2 : Value} {x : It} {sv : List Value} (h : RdI w T v0 v1 v2 x sv) (hb : Below w.heap.size w w') : RdI w' T v0 v1 v2 x sv := by
  induction h with
  | mk l v1 bs A c E h1 h1' h2 h3 h4 h4' h5 _ ih => exact RdI.mk l v1 bs A c E (h1.below hb) h1' h2 h3 h4 h4' (h5.below hb) ih
theorem RdI.mono {T T' : Nat → Prop} {w : World} {v0 v1 v2 : Value} {x : It} {sv : List Value} (h : RdI w T v0 v1 v2 x sv) (hl : ∀ k, T k → T' k) : RdI w T' v0 v1 v2 x sv := by
  induction h with
  | mk l v1 bs A c E h1 h1' h2 h3 h4 h4' h5 _ ih => exact RdI.mk l v1 bs A c E h1 (fun a n c' e => hl _ (h1' a n c' e)) h2 h3 h4 (fun a ha => hl _ (h4' a ha)) h5 ih
/-- the blocks that were made between two worlds -/
def Made (w w' : World) (k : Nat) : Prop := w.heap.size ≤ k ∧ k < w'.heap.size
theorem OwnB.fr {w w0 : World} {v : Value} {l : List UInt8} (h : OwnB w w0.heap.size v l) : Fr (Made w0 w) v := fun a n c e => h.lt a.block (by rw [e]; rfl)
theorem Chg.setNew {S : Nat → Prop} {a w : World} (h : Chg S a w) {p : Addr} (hp : a.heap.size ≤ p.block) (u : Value) : Chg S a (w.setCell p u) :=
  ⟨h.os, h.tape, h.output, by simpa [World.setCell] using h.size, fun k hk hs => (Below.heap_setCell _ _ _ _ (by omega)).trans (h.block k hk hs)⟩

/-- Strings that are the call's own, from a block on, no two in one. -/
def OwnS (w : World) (base : Nat) (svs : List Value) : Prop := (∀ v ∈ svs, ∃ l, OwnB w base v l) ∧ Dist svs
theorem OwnS.below {w w' : World} {base : Nat} {svs : List Value} (h : OwnS w base svs) (hb : Below w.heap.size w w') : OwnS w' base svs :=
  ⟨fun v hv => by obtain ⟨l, hl⟩ := h.1 v hv; exact ⟨l, hl.below hb⟩, h.2⟩
theorem OwnS.mono {w : World} {base base' : Nat} {svs : List Value} (h : OwnS w base svs) (hb : base' ≤ base) : OwnS w base' svs :=
  ⟨fun v hv => by obtain ⟨l, hl⟩ := h.1 v hv; exact ⟨l, hl.mono hb⟩, h.2⟩
theorem OwnS.nil (w : World) (base : Nat) : OwnS w base [] := ⟨fun v hv => by simp at hv, fun i j hi => absurd hi (by simp)⟩
theorem OwnS.one {w : World} {base : Nat} {v : Value} {l : List UInt8} (h : OwnB w base v l) : OwnS w base [v] :=
  ⟨fun u hu => ⟨l, by simp at hu; subst hu; exact h⟩, fun i j hi hj hij => by simp at hi hj; omega⟩
theorem OwnS.lt {w : World} {base : Nat} {svs : List Value} (h : OwnS w base svs) : ∀ v ∈ svs, ∀ g, v.ownBlock = some g → base ≤ g ∧ g < w.heap.size := fun v hv g hg => by
  obtain ⟨l, hl⟩ := h.1 v hv
  exact hl.lt g hg
theorem Dist.append {a b : List Value} (ha : Dist a) (hb : Dist b) (hab : ∀ u ∈ a, ∀ v ∈ b, ∀ g, u.ownBlock = some g → v.ownBlock ≠ some g) : Dist (a ++ b) := fun i j hi hj hij g hg hg' => by
  by_cases h1 : i < a.length <;> by_cases h2 : j < a.length
  · rw [List.getElem_append_left h1] at hg
    rw [List.getElem_append_left h2] at hg'
    exact ha i j h1 h2 hij g hg hg'
  · rw [List.getElem_append_left h1] at hg
    rw [List.getElem_append_right (by omega)] at hg'
    exact hab _ (List.getElem_mem _) _ (List.getElem_mem _) g hg hg'
  · rw [List.getElem_append_right (by omega)] at hg
    rw [List.getElem_append_left h2] at hg'
    exact hab _ (List.getElem_mem _) _ (List.getElem_mem _) g hg' hg
  · rw [List.getElem_append_right (by omega)] at hg
    rw [List.getElem_append_right (by omega)] at hg'
    exact hb (i - a.length) (j - a.length) (by simp at hi; omega) (by simp at hj; omega) (by omega) g hg hg'
/-- strings made later stand apart from the earlier ones -/
theorem OwnS.append {w w1 w2 : World} {base b2 : Nat} {a b : List Value} (h1 : OwnS w1 base a) (h2 : OwnS w2 b2 b) (hw1 : OwnS w base a) (hw2 : OwnS w base b) (h : w1.heap.size ≤ b2) : OwnS w base (a ++ b) :=
  ⟨fun v hv => by
    rcases List.mem_append.1 hv with hv | hv
    · exact hw1.1 v hv
    · exact hw2.1 v hv, Dist.append h1.2 h2.2 (fun u hu v hv g hg hg' => by
    have := (h1.lt u hu g hg).2
    have := (h2.lt v hv g hg').1
    omega)⟩

theorem run_eql_nil_bytes (A : Option Addr) (n c : Nat) (w : World) : (binOp .eql 22 (.slice A n c) (.slice none 0 0)).run Try.prog w = .ok (.bool A.isNone) w := by
  exact Lib.run_eql_slice_nil (P := Try.prog) w 22 5 A n c 0 0 Try.underlying22

set_option maxHeartbeats 400000 in
theorem clone_any (va : Value) (l : List UInt8) (w : World) (ha : SB w va l) (hl : l.length ≤ 1099511627776) :
    Calls Try.prog 59 #[va] w fun e w' => ∃ v, e = .returned v ∧ OwnB w' w.heap.size v l ∧ Below w.heap.size w w' := by
  have hsrc := ha.src
  obtain ⟨A, c, rfl, hr, hc, hm, hn⟩ := ha
  unfold maxLen at hm
  have hq := run_eql_nil_bytes A l.length c
  cases A with
  | none =>
    have hl0 : l = [] := by
      cases l with
      | nil => rfl
      | cons a r => obtain ⟨b, off, e, _⟩ := hr 0 (by simp); cases e
    subst hl0
    obtain rfl := hn rfl
    have hq0 : ∀ w, (binOp .eql 22 (.slice none 0 0) (.slice none 0 0)).run Try.prog w = .ok (.bool true) w := run_eql_nil_bytes none 0 0
    clear hq hn
    go_enter Try.func59, Try.ntmps59
    go_wp2
    go_ret
    exact ⟨.slice none 0 0, rfl, OwnB.nil _ _, Below.refl _ _⟩
  | some a =>
    have HSrc := Lib.hid hsrc
    clear hsrc hn
    have hb0 : (some a).isNone = false := rfl
    rw [hb0] at hq
    go_enter Try.func59, Try.ntmps59
    go_wp2_with (at_builtin; (refine wpList_ap (s := .tmp 5) (x := .tmp 6) bytesT rfl rfl (by rfl) (own_lit w #[] 5 (n := 0) (Nat.le_refl _) (by simp [maxLen]) (by rfl)) (by rfl) (HSrc.out.below ((Below.refl _ _).alloc (Nat.le_refl _) _)) (bv_one l) (by simp only [maxLen]; omega) (by omega) (by simp) ?_); intro v1 w1 hap1)
    go_ret
    refine ⟨v1, rfl, OwnB.of hap1.1 (by simp), ap_below ((Below.refl _ _).alloc (Nat.le_refl _) _) hap1 (by simp) (fun k hk => by simp [Value.ownBlock] at hk; omega)⟩
end Go.Proofs.Ytdhkhdeblkbojaa
