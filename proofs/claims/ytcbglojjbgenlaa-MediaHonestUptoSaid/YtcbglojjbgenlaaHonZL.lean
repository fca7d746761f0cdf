/- A device that is loaded of what another told. -/
import Derived.Test.YtcbglojjbgenlaaHonZ
import Derived.Test.YtcbglojjbgenlaaHonX
namespace Go.Proofs.Ytcbglojjbgenlaa
open Go.RowKit Go.MapL Go.ChangeMaps Go.MapKept
set_option linter.unusedSimpArgs false
set_option linter.unusedVariables false

theorem MediaV.agg {w w' : World} {s : Hn} {x : Value} (h : MediaV w w' s x) : ∃ cs, x = .agg cs := by
  obtain ⟨bA, bc, lA, lc, kl, vals, datas, rfl, -⟩ := h
  exact ⟨_, rfl⟩
theorem load_p {w w' W : World} {s : Hn} {x : Value} (h : MediaV w w' s x) (hb : Below w'.heap.size w' W) (hs : 1 ≤ s.slots ∧ s.slots ≤ 4096 ∧ 0 ≤ s.room ∧ s.room ≤ 1048576) (hn : (s.n : Int) ≤ s.slots) (hll : (s.log.length : Int) ≤ s.room) (hc : 0 ≤ s.cnt ∧ s.cnt ≤ 1099511627776 ∧ (0 < s.cnt ∨ s.tag = zero32)) :
    Calls Try.prog 25 #[x, .slice none 0 0] W fun e w2 => ∃ D F, e = .returned (.tuple #[.pointer (some ⟨D, 0, none⟩), .int .i64 0]) ∧ Below W.heap.size W w2 ∧ (∀ k, F k → W.heap.size ≤ k) ∧ Plain w2 D F s 1 := by
  obtain ⟨bA, bc, lA, lc, kl, vals, datas, rfl, h1, h2, h3, h4, h5, h6, h7⟩ := h
  obtain ⟨sl, rm, bl, n, lg, c, tg⟩ := s
  dsimp only at *
  subst h6
  exact load_ok sl rm bA bc w.heap.size kl vals datas bl lA lc lg c tg W hs (own_below h1 hb) h2 (fun i hi hi' => (h3 i hi hi').below hb) h4 h5 hn (h7.below hb) hll hc
end Go.Proofs.Ytcbglojjbgenlaa
