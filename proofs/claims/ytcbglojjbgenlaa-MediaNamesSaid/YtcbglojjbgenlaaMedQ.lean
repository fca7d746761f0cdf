/- What a device keeps, kept. -/
import Derived.Test.YtcbglojjbgenlaaMedN
namespace Go.Proofs.Ytcbglojjbgenlaa
open Go.RowKit Go.MapL Go.ChangeMaps Go.MapKept
set_option linter.unusedSimpArgs false
set_option linter.unusedVariables false

variable {w w' : World} {S F F' X : Nat → Prop}

theorem isBytes_chg {k : Nat} (h : isBytes w k) (hc : Chg S w w') (hs : ¬ S k) : isBytes w' k := by
  obtain ⟨cs, fr, hk⟩ := h
  exact ⟨cs, fr, (hc.block k (Array.getElem?_eq_some_iff.1 hk).1 hs).trans hk⟩
theorem DB.chg {v : Value} {l : Bs} (h : DB w F v l) (hc : Chg S w w') (hs : ∀ k, isBytes w k → ¬ S k) : DB w' F v l := by
  obtain ⟨⟨A, c, rfl, hr, h1, h2, h3⟩, hk⟩ := h
  refine ⟨⟨A, c, rfl, ?_, h1, h2, h3⟩, fun k hv => ⟨(hk k hv).1, isBytes_chg (hk k hv).2 hc (hs k (hk k hv).2)⟩⟩
  refine hr.chg hc (fun a ha => ?_)
  subst ha
  exact hs _ (hk a.block rfl).2
theorem DB.mono {v : Value} {l : Bs} (h : DB w F v l) (hF : ∀ k, F k → F' k) : DB w F' v l := ⟨h.1, fun k hv => ⟨hF k (h.2 k hv).1, (h.2 k hv).2⟩⟩
theorem DB.own {v : Value} {l : Bs} {base : Nat} (h : OwnB w base v l) (hF : ∀ k, base ≤ k → k < w.heap.size → F k) : DB w F v l :=
  ⟨h.sb, fun k hv => by obtain ⟨h1, h2, cs, fr, h3⟩ := own_vBlock h k hv; exact ⟨hF k h1 h2, cs, fr, h3⟩⟩
theorem OptR.imp {α β : Type} {R R' : α → β → Prop} (hi : ∀ a b, R a b → R' a b) : ∀ {x : Option α} {y : Option β}, OptR R x y → OptR R' x y
  | none, none, _ => trivial
  | some a, some b, h => hi a b h
  | none, some _, h => h.elim
  | some _, none, h => h.elim
theorem OptR.none {α β : Type} {R : α → β → Prop} {x : Option α} {y : Option β} (h : OptR R x y) : x.isSome = y.isSome := by
  cases x <;> cases y <;> first | rfl | exact h.elim
theorem OptR.some {α β : Type} {R : α → β → Prop} {x : Option α} {b : β} (h : OptR R x (some b)) : ∃ a, x = some a ∧ R a b := by
  cases x with
  | none => exact h.elim
  | some a => exact ⟨a, rfl, h⟩
theorem MapB.chg {B n : Nat} {bl : H32 → Option Bs} (h : MapB w F B bl n) (hc : Chg S w w') (hB : ¬ S B) (hs : ∀ k, isBytes w k → ¬ S k) (hF : ∀ k, F k → F' k) : MapB w' F' B bl n := by
  obtain ⟨mv, hm, hr⟩ := h
  exact ⟨mv, map_chg hm hc hB, fun q => (hr q).imp fun v l h => (h.chg hc hs).mono hF⟩
open Classical in
/-- one key told anew -/
noncomputable def updO {α : Type} (m : H32 → Option α) (q : H32) (x : Option α) : H32 → Option α := fun q' => if q' = q then x else m q'
open Classical in
noncomputable def updL {α : Type} (m : H32 → α) (q : H32) (x : α) : H32 → α := fun q' => if q' = q then x else m q'
theorem MapB.put {B n' : Nat} {bl : H32 → Option Bs} {mv : H32 → Option Value} {q : H32} {v : Value} {l : Bs} (hm : MapIs HC w' B (putV mv q v) n') (hr : ∀ q, OptR (DB w F) (mv q) (bl q)) (hc : Chg S w w') (hs : ∀ k, isBytes w k → ¬ S k) (hF : ∀ k, F k → F' k) (hv : DB w' F' v l) :
    MapB w' F' B (updO bl q (some l)) n' := by
  refine ⟨_, hm, fun q' => ?_⟩
  by_cases h : q' = q
  · subst h
    simp only [putV, updO, if_true]
    exact hv
  · simp only [putV, updO, if_neg h]
    exact (hr q').imp fun v l h => (h.chg hc hs).mono hF
theorem MapO.chg {B n : Nat} {o : H32 → Option (Option Bs)} (h : MapO w F B o n) (hc : Chg S w w') (hB : ¬ S B) (hs : ∀ k, isBytes w k → ¬ S k) (hF : ∀ k, F k → F' k) : MapO w' F' B o n := by
  obtain ⟨mv, hm, hr⟩ := h
  refine ⟨mv, map_chg hm hc hB, fun q => (hr q).imp fun v x h => ?_⟩
  obtain ⟨s, e, hd⟩ := h
  exact ⟨s, e, (hd.chg hc hs).mono hF⟩
theorem VerV.chg {v : Value} {ls : List Bs} (h : VerV w F v ls) (hc : Chg S w w') (hr : ∀ k, v.ownBlock = some k → ¬ S k) (hs : ∀ k, isBytes w k → ¬ S k) (hF : ∀ k, F k → F' k) : VerV w' F' v ls := by
  obtain ⟨vals, h1, h2, h3⟩ := h
  exact ⟨vals, own_chg h1 hc hr, fun i hi hi' => ((h2 i hi hi').chg hc hs).mono hF, fun k hk => hF k (h3 k hk)⟩
theorem MapV.chg {V : Nat} {vs : H32 → List Bs} (h : MapV w F V vs) (hc : Chg S w w') (hV : ¬ S V) (hr : ∀ k c fr, w.heap[k]? = some (.cells c 29 fr) → ¬ S k) (hs : ∀ k, isBytes w k → ¬ S k) (hF : ∀ k, F k → F' k) : MapV w' F' V vs := by
  obtain ⟨mv, n, hm, h1, h2⟩ := h
  refine ⟨mv, n, map_chg hm hc hV, fun q => ?_, h2⟩
  rcases h1 q with h | ⟨v, e, h⟩
  · exact .inl h
  · refine .inr ⟨v, e, h.chg hc (fun k hk => ?_) hs hF⟩
    obtain ⟨vals, ho, _⟩ := h
    rcases ho.2 with ⟨rfl, _⟩ | ⟨g, cap, cur, rfl, _, hg, _⟩
    · simp [Value.ownBlock] at hk
    · simp only [Value.ownBlock, Option.some.injEq] at hk
      subst hk
      exact hr _ _ _ hg
theorem ChoAt.chg {v : Value} {l : List Ch} (h : ChoAt w F v l) (hc : Chg S w w') (hs : ∀ k c fr, w.heap[k]? = some (.cells c 27 fr) → ¬ S k) (hF : ∀ k, F k → F' k) : ChoAt w' F' v l := by
  obtain ⟨⟨A, c, rfl, hr, h1⟩, hk⟩ := h
  refine ⟨⟨A, c, rfl, fun j hj => ?_, h1⟩, fun k hv => ?_⟩
  · obtain ⟨b, off, e, hcell⟩ := hr j hj
    subst e
    obtain ⟨_, cs, fr, hb⟩ := hk b rfl
    refine ⟨b, off, rfl, ?_⟩
    rw [World.cell?_of_block (hc.block b (World.block_lt_of_cell? w _ hcell) (hs _ _ _ hb))]
    exact hcell
  · obtain ⟨hf, cs, fr, hb⟩ := hk k hv
    exact ⟨hF k hf, cs, fr, (hc.block k (Array.getElem?_eq_some_iff.1 hb).1 (hs _ _ _ hb)).trans hb⟩
theorem PcAt.chg {a b : Value} {p : Pc} (h : PcAt w F X a b p) (hc : Chg S w w') (hm : ∀ k es clk, w.heap[k]? = some (.map es clk) → S k → X k) (hs : ∀ k, isBytes w k → ¬ S k) (hF : ∀ k, F k → F' k) : PcAt w' F' X a b p := by
  obtain ⟨N, rfl, h1, h2, h3, h4⟩ := h
  refine ⟨N, rfl, hF N h1, h2, h3.chg hc (fun hS => ?_) hs hF, (h4.chg hc hs).mono hF⟩
  obtain ⟨mv, ⟨es, clk, hb, _⟩, _⟩ := h3
  exact h2 (hm N es clk hb hS)

theorem flatMap_snoc {α β : Type} (f : α → List β) (l : List α) (x : α) : (l ++ [x]).flatMap f = l.flatMap f ++ f x := by simp

end Go.Proofs.Ytcbglojjbgenlaa
