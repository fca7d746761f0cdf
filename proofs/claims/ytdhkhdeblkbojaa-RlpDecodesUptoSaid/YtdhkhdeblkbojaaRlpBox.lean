/- Items that are laid one by one behind a slice in a struct of the call's own. -/
import Derived.Test.YtdhkhdeblkbojaaRlpEnc
namespace Go.Proofs.Ytdhkhdeblkbojaa
open Go.RowKit

structure BoxRel (t : TypeId) (Gd : World → Value → Prop) (G N : Nat) (wG wr : World) (a0 a1 V : Value) (E : List Ent) : Prop where
  blk : wr.heap[G]? = some (.cells #[a0, a1, V] t (0, 0))
  row : wr.ownsRow N t 3 V E.length (E.flatMap Ent.cells)
  its : ∀ x ∈ E, RdI wr (fun k => N ≤ k ∧ k < wr.heap.size ∧ V.ownBlock ≠ some k) x.v0 x.v1 x.v2 x.x x.sv
  str : OwnS wr N (E.flatMap (·.sv))
  gd : ∀ v ∈ E.flatMap (·.sv), Gd wr v
  chg : Chg (· = G) wG wr
  size : wG.heap.size = N
  lt : G < N

/-- a fact on a value that hangs on its own block alone -/
def Local (Gd : World → Value → Prop) : Prop := ∀ w w' v, (∀ k, v.ownBlock = some k → w'.heap[k]? = w.heap[k]?) → Gd w v → Gd w' v
theorem local_true : Local (fun _ _ => True) := fun _ _ _ _ _ => trivial

theorem BoxRel.round {t : TypeId} {Gd : World → Value → Prop} (hL : Local Gd) (ht : 5 ≠ t) {G N : Nat} {wG wr w2 w9 : World} {a0 a1 V v0 v1 v2 : Value} {E : List Ent} {x : It} {sv : List Value} {g9 c9 : Nat}
    (hrel : BoxRel t Gd G N wG wr a0 a1 V E) (hb : Below wr.heap.size wr w2) (hrd : RdI w2 (Made wr w2) v0 v1 v2 x sv) (hos : OwnS w2 wr.heap.size sv) (hgd : ∀ v ∈ sv, Gd w2 v)
    (hap : Appended (w2.alloc (.cells #[v0, v1, v2] t)) N t 3 V (E.length + 1) (E.flatMap Ent.cells ++ [v0, v1, v2]) w9 (.slice (some ⟨g9, 0, none⟩) (E.length + 1) c9)) :
    BoxRel t Gd G N wG (w9.setCell ⟨G, 2, none⟩ (.slice (some ⟨g9, 0, none⟩) (E.length + 1) c9)) a0 a1 (.slice (some ⟨g9, 0, none⟩) (E.length + 1) c9) (E ++ [⟨v0, v1, v2, x, sv⟩]) := by
  have hsz := hrel.size
  have hlt := hrel.lt
  have hszr := hrel.chg.size
  have hV : ∀ k, V.ownBlock = some k → N ≤ k ∧ k < wr.heap.size := fun k hk => hrel.row.lt k hk
  have hrow2 : w2.ownsRow N t 3 V E.length (E.flatMap Ent.cells) := own_below hrel.row hb
  have hc2 : Chg (fun k => V.ownBlock = some k ∨ k = G) w2 (w9.setCell ⟨G, 2, none⟩ (.slice (some ⟨g9, 0, none⟩) (E.length + 1) c9)) :=
    (((Chg.refl _ w2).alloc _).grown hap.2.1 (fun k hk => .inl (.inl hk))).setCell (.inr rfl) _
  have hc : Chg (fun k => V.ownBlock = some k ∨ k = G) wr (w9.setCell ⟨G, 2, none⟩ (.slice (some ⟨g9, 0, none⟩) (E.length + 1) c9)) :=
    (Below.chg _ hb).trans hc2
  have hV9 : V.ownBlock = some g9 ∨ g9 = w2.heap.size + 1 := by
    rcases hap.2.2 with ⟨h, _⟩ | ⟨h, _⟩
    · exact .inl h.symm
    · right
      simpa [Value.ownBlock] using h
  have hsz2 := hb.size
  have hszW := hc2.size
  have hb9 : N ≤ g9 := own_ge hap.1 g9 rfl
  have hs1 : ∀ v ∈ E.flatMap (·.sv), ∀ k, v.ownBlock = some k → ¬ (V.ownBlock = some k ∨ k = G) := fun v hv k hk hS => by
    obtain ⟨l, hl⟩ := hrel.str.1 v hv
    have hge := own_ge hl k hk
    rcases hS with h | h
    · exact own_type_ne hl hrel.row ht k hk h
    · omega
  have hs2 : ∀ v ∈ sv, ∀ k, v.ownBlock = some k → ¬ (V.ownBlock = some k ∨ k = G) := fun v hv k hk hS => by
    obtain ⟨l, hl⟩ := hos.1 v hv
    have hge := own_ge hl k hk
    rcases hS with h | h
    · exact own_type_ne hl hrow2 ht k hk h
    · omega
  refine ⟨?_, ?_, ?_, ?_, ?_, ?_, hsz, hlt⟩
  · have h1 : w9.heap[G]? = some (.cells #[a0, a1, V] t (0, 0)) := by
      have hg := (((Chg.refl (fun k => V.ownBlock = some k) w2).alloc (.cells #[v0, v1, v2] t)).grown hap.2.1 (fun k hk => .inl hk))
      rw [hg.block _ (by omega) (fun h => by have := hV _ h; omega), hb.block _ (by omega)]
      exact hrel.blk
    exact heap_setCell_same w9 G 2 _ _ _ h1
  · have := own_chg hap.1 ((Chg.refl (· = G) w9).setCell (p := ⟨G, 2, none⟩) rfl (.slice (some ⟨g9, 0, none⟩) (E.length + 1) c9)) (fun k hk e' => by
      have : g9 = k := by simpa [Value.ownBlock] using hk
      omega)
    simpa [Ent.cells] using this
  · intro en hen
    rcases List.mem_append.1 hen with hen | hen
    · refine ((hrel.its en hen).chg hc (fun k hS hT => ?_)).mono (fun k hT => ⟨hT.1, by omega, fun h => ?_⟩)
      · rcases hS with h | h
        · exact hT.2.2 h
        · omega
      · have hk : g9 = k := by simpa [Value.ownBlock] using h
        rcases hV9 with h9 | h9
        · exact hT.2.2 (hk ▸ h9)
        · omega
    · simp only [List.mem_singleton] at hen
      subst hen
      refine (hrd.chg hc2 (fun k hS hT => ?_)).mono (fun k hT => ⟨?_, ?_, fun h => ?_⟩)
      · unfold Made at hT
        rcases hS with h | h
        · have := hV k h; omega
        · omega
      · unfold Made at hT; omega
      · unfold Made at hT; omega
      · have hk : g9 = k := by simpa [Value.ownBlock] using h
        unfold Made at hT
        rcases hV9 with h9 | h9
        · have := hV _ h9; omega
        · omega
  · have := OwnS.append hrel.str hos (hrel.str.chg' hc hs1) ((hos.chg' hc2 hs2).mono (by omega)) (Nat.le_refl _)
    simpa using this
  · intro v hv
    have hv' : v ∈ E.flatMap (·.sv) ∨ v ∈ sv := by simpa using hv
    rcases hv' with hv | hv
    · refine hL _ _ v (fun k hk => hc.block k ?_ (hs1 v hv k hk)) (hrel.gd v hv)
      obtain ⟨l, hl⟩ := hrel.str.1 v hv
      exact (hl.lt k hk).2
    · refine hL _ _ v (fun k hk => hc2.block k ?_ (hs2 v hv k hk)) (hgd v hv)
      obtain ⟨l, hl⟩ := hos.1 v hv
      exact (hl.lt k hk).2
  · exact ⟨hc.os.trans hrel.chg.os, hc.tape.trans hrel.chg.tape, hc.output.trans hrel.chg.output, Nat.le_trans hrel.chg.size hc.size, fun k hk hs => (hc.block k (by omega) (by rintro (h | h) <;> first | omega | (exact hs h) | (have := hV _ h; omega))).trans (hrel.chg.block k hk hs)⟩

theorem row_caps {w : World} {base : Nat} {e : TypeId} {A : Option Addr} {n c : Nat} {xs : List Value} {size : Nat} (h : w.ownsRow base e size (.slice A n c) n xs) : n ≤ c ∧ c ≤ maxLen ∧ (A = none → c = 0) := by
  rcases h.2 with ⟨h, h0⟩ | ⟨g, cap, cur, h, hb, hg, hn, hm, _⟩
  · injection h with h1 h2 h3
    exact ⟨by omega, by simp only [maxLen]; omega, fun _ => h3⟩
  · injection h with h1 h2 h3
    subst h3
    exact ⟨hn, hm, fun h => by rw [h1] at h; cases h⟩

theorem BoxRel.out {t : TypeId} {Gd : World → Value → Prop} {G N R : Nat} {wG wr W : World} {a0 a1 : Value} {A : Option Addr} {c : Nat} {E : List Ent} {l : Bool} {bs : List UInt8} {T : Nat → Prop}
    (hrel : BoxRel t Gd G N wG wr a0 a1 (.slice A E.length c) E) (hW : Chg (· = R) wr W) (hR : R ≤ G) (hs : SB W a1 bs) (hf : Fr T a1) (hT : ∀ k, N ≤ k → k < W.heap.size → T k) :
    RdI W T (.bool l) a1 (.slice A E.length c) (.mk l bs (E.map (·.x))) (a1 :: E.flatMap (·.sv)) := by
  have hszW := hW.size
  have hlt := hrel.lt
  have hrow := own_chg hrel.row hW (fun k hk e' => by have := own_ge hrel.row k hk; omega)
  obtain ⟨A', c', h', hl', hs'⟩ := Src.own hrow
  injection h' with h1 h2 h3
  subst h1 h3
  obtain ⟨k1, k2, k3⟩ := row_caps hrow
  refine RdI.mk l _ bs _ _ E hs hf k1 k2 k3 (fun a ha => ?_) ⟨_, _, rfl, hl', hs'⟩ (fun en hen => ?_)
  · subst ha
    have := hrow.lt a.block rfl
    exact hT _ this.1 this.2
  · exact ((hrel.its en hen).chg hW (fun k hS hT => by omega)).mono (fun k hk => hT k hk.1 (by omega))
theorem BoxRel.kept {t : TypeId} {Gd : World → Value → Prop} (hL : Local Gd) {G N : Nat} {wG wr wy : World} {a0 a1 V : Value} {E : List Ent} (hrel : BoxRel t Gd G N wG wr a0 a1 V E) (hb : Below wr.heap.size wr wy) : BoxRel t Gd G N wG wy a0 a1 V E := by
  have hs := hb.size
  have hz := hrel.chg.size
  have hz2 := hrel.size
  have hlt := hrel.lt
  refine ⟨(hb.block _ (by omega)).trans hrel.blk, own_below hrel.row hb, fun x hx => ((hrel.its x hx).kept hb).mono (fun k hk => ⟨hk.1, by omega, hk.2.2⟩), hrel.str.below hb, fun v hv => hL _ _ v (fun k hk => hb.block k ?_) (hrel.gd v hv), ?_, hz2, hlt⟩
  · obtain ⟨l, hl⟩ := hrel.str.1 v hv
    exact (hl.lt k hk).2
  · exact ⟨hb.os.trans hrel.chg.os, hb.tape.trans hrel.chg.tape, hb.output.trans hrel.chg.output, Nat.le_trans hrel.chg.size hb.size, fun k hk hS => (hb.block k (by omega)).trans (hrel.chg.block k hk hS)⟩
theorem BoxRel.start {t : TypeId} {Gd : World → Value → Prop} {G N : Nat} {wG : World} {a0 a1 : Value} (hblk : wG.heap[G]? = some (.cells #[a0, a1, .slice none 0 0] t (0, 0))) (hs : wG.heap.size = N) (hlt : G < N) : BoxRel t Gd G N wG wG a0 a1 (.slice none 0 0) [] :=
  ⟨hblk, own_nil _ _ _ _, fun x hx => (by cases hx), OwnS.nil _ _, fun v hv => (by cases hv), Chg.refl _ _, hs, hlt⟩

theorem own_shorter {w : World} {base : Nat} {e : TypeId} {g n m c : Nat} {xs : List Value} (h : w.ownsRow base e 1 (.slice (some ⟨g, 0, none⟩) n c) n xs) (hm : m ≤ n) : w.ownsRow base e 1 (.slice (some ⟨g, 0, none⟩) m c) m (xs.take m) := by
  refine ⟨by have := h.1; simp; omega, ?_⟩
  rcases h.2 with ⟨h', _⟩ | ⟨g', cap, cur, h', hb, hg, hn, hmx, hs, ht⟩
  · cases h'
  · injection h' with e1 e2 e3
    injection e1 with e1
    injection e1 with e1
    subst e1 e3
    refine .inr ⟨g, c, cur, rfl, hb, hg, by omega, hmx, hs, ?_⟩
    rw [← ht, List.take_take]
    congr 1
    omega
theorem map_snoc {E E' : List Ent} (h : E'.map (·.x) = (E.map (·.x)).take E'.length) (hi : E'.length < E.length) : E'.map (·.x) ++ [E[E'.length].x] = (E.map (·.x)).take (E'.length + 1) := by
  have hi' : E'.length < (E.map (·.x)).length := by simpa using hi
  rw [← List.take_append_getElem hi', ← h]
  simp
theorem len_wt (xs : List It) : xs.length ≤ wtL xs := by
  induction xs with
  | nil => simp
  | cons x r ih =>
    rw [wtL, List.length_cons]
    cases x with
    | mk l b ys => rw [wtI]; omega
end Go.Proofs.Ytdhkhdeblkbojaa
