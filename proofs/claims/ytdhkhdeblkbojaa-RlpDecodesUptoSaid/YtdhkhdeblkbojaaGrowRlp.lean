/- Items in a world that has grown. -/
import Derived.Test.YtdhkhdeblkbojaaRlpRound
import Derived.Test.YtdhkhdeblkbojaaGrowB
namespace Go.Proofs.Ytdhkhdeblkbojaa
open Go.RowKit
theorem made_rg {w : World} {D : Dl} {k : Nat} : Made w (w.gr D) k ↔ Rg w.heap.size D k := by unfold Made Rg; rw [size_gr]
theorem SB.agr {T : Nat → Prop} {w W : World} {v : Value} {l : List UInt8} (h : SB w v l) (hf : Fr T v) (hb : ∀ k, T k → W.heap[k]? = w.heap[k]?) : SB W v l := by
  obtain ⟨A, c, rfl, hr, h1⟩ := h
  refine ⟨A, c, rfl, fun k hk => ?_, h1⟩
  obtain ⟨b, off, e, hc⟩ := hr k hk
  refine ⟨b, off, e, ?_⟩
  have := hb b (by subst e; exact hf _ _ _ rfl)
  rw [World.cell?_of_block (w := w) (a := ⟨b, off + k, none⟩) this]
  exact hc
theorem Src.agr {T : Nat → Prop} {w W : World} {size : Nat} {A : Option Addr} {m c : Nat} {news : List Value} (h : Src w size (.slice A m c) m news) (hf : ∀ a, A = some a → T a.block) (hb : ∀ k, T k → W.heap[k]? = w.heap[k]?) : Src W size (.slice A m c) m news := by
  obtain ⟨A', c', e, hl, hn⟩ := h
  injection e with e1 e2 e3
  subst e1 e3
  refine ⟨A, c, rfl, hl, fun j u hj => ?_⟩
  obtain ⟨ad, e, hcell⟩ := hn j u hj
  refine ⟨ad, e, ?_⟩
  have hbk : (ad.add j).block = ad.block := by unfold Addr.add; split <;> rfl
  rw [World.cell?_of_block (w := w) (by rw [hbk]; exact hb _ (hf _ e))]
  exact hcell
theorem RdI.agr {T : Nat → Prop} {w W : World} {v0 v1 v2 : Value} {x : It} {sv : List Value} (h : RdI w T v0 v1 v2 x sv) (hb : ∀ k, T k → W.heap[k]? = w.heap[k]?) : RdI W T v0 v1 v2 x sv := by
  induction h with
  | mk l v1 bs A c E h1 h1' h2 h3 h4 h4' h5 _ ih => exact RdI.mk l v1 bs A c E (h1.agr h1' hb) h1' h2 h3 h4 h4' (h5.agr h4' hb) ih
theorem rdI_at {w : World} {D : Dl} {v0 v1 v2 : Value} {x : It} {sv : List Value} (h : RdI (w.gr D) (Made w (w.gr D)) v0 v1 v2 x sv) : ∀ W, At w.heap.size D W → RdI W (Rg w.heap.size D) v0 v1 v2 x sv := fun _ ha =>
  (h.mono fun _ hk => made_rg.1 hk).agr fun _ hk => at_heap ha hk
theorem ownS_at {w : World} {D : Dl} {sv : List Value} (h : OwnS (w.gr D) w.heap.size sv) : ∀ W, At w.heap.size D W → OwnS W w.heap.size sv := fun W ha =>
  ⟨fun v hv => by obtain ⟨l, hl⟩ := h.1 v hv; exact ⟨l, ownB_at hl W ha⟩, h.2⟩
theorem encode_eq {w : World} {T : Nat → Prop} {v0 v1 v2 : Value} {x : It} {sv : List Value} {f : List UInt8} {c : Int} (hE : encR x = (f, c)) (h : RdI w T v0 v1 v2 x sv) (hwt : wtI x ≤ 1099511627776) :
    Calls Try.prog 25 #[.agg #[v0, v1, v2]] w fun e w' => ∃ v, e = .returned (.tuple #[v, .int .i64 c]) ∧ OwnB w' w.heap.size v f ∧ Below w.heap.size w w' := by
  have := encode_any h hwt
  rw [hE] at this
  exact this
theorem decode_bad {w : World} {vb : Value} {b : List UInt8} {p : Nat} {c : Int} (hD : decR b = .bad p c) (hb : SB w vb b) (hl : b.length ≤ 1099511627776) :
    Calls Try.prog 27 #[vb] w fun e w' => e = .returned (.tuple #[.agg #[.bool false, .slice none 0 0, .slice none 0 0], .int .i64 (p : Int), .int .i64 c]) ∧ Below w.heap.size w w' := by
  have := decode_any vb b w hb hl
  rw [hD] at this
  exact this
theorem decode_ok {w : World} {vb : Value} {b : List UInt8} {x : It} {q : Nat} (hD : decR b = .ok x q) (hb : SB w vb b) (hl : b.length ≤ 1099511627776) :
    Calls Try.prog 27 #[vb] w fun e w' => ∃ v0 v1 v2 sv, e = .returned (.tuple #[.agg #[v0, v1, v2], .int .i64 0, .int .i64 0]) ∧ RdI w' (Made w w') v0 v1 v2 x sv ∧ OwnS w' w.heap.size sv ∧ Below w.heap.size w w' := by
  have := decode_any vb b w hb hl
  rw [hD] at this
  exact this
theorem split_bad {w : World} {vb : Value} {b : List UInt8} {p : Nat} {c : Int} (hD : readR b = .bad p c) (hb : SB w vb b) (hl : b.length ≤ 1099511627776) :
    Calls Try.prog 32 #[vb] w fun e w' => e = .returned (.tuple #[.slice none 0 0, .slice none 0 0, .int .i64 c]) ∧ Below w.heap.size w w' := by
  have := split_any vb b w hb hl
  rw [hD] at this
  exact this
theorem split_ok {w : World} {vb : Value} {b : List UInt8} {x : It} {q : Nat} (hD : readR b = .ok x q) (hb : SB w vb b) (hl : b.length ≤ 1099511627776) :
    Calls Try.prog 32 #[vb] w fun e w' => ∃ s t, e = .returned (.tuple #[s, t, .int .i64 0]) ∧ OwnB w' w.heap.size s (b.take q) ∧ OwnB w' w.heap.size t (b.drop q) ∧ OwnS w' w.heap.size [s, t] ∧ Below w.heap.size w w' := by
  have := split_any vb b w hb hl
  rw [hD] at this
  exact this
end Go.Proofs.Ytdhkhdeblkbojaa
