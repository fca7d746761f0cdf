/- What a plain device tells of itself. -/
import Derived.Test.YtcbglojjbgenlaaHonY
import Derived.Test.YtcbglojjbgenlaaHnH
namespace Go.Proofs.Ytcbglojjbgenlaa
open Go.RowKit Go.MapL Go.ChangeMaps Go.MapKept
set_option linter.unusedSimpArgs false
set_option linter.unusedVariables false

/-- what Media told, in w', where it was called in w -/
def MediaV (w w' : World) (s : Hn) (x : Value) : Prop := ∃ bA bc lA lc kl vals datas, x = .agg (medC s.slots s.room (.slice bA kl.length bc) (.slice lA s.log.length lc) s.cnt s.tag).toArray ∧
  BlobsAt w' w.heap.size (.slice bA kl.length bc) kl vals ∧ vals.length = kl.length ∧ (∀ i (h : i < vals.length) (h' : i < datas.length), SB w' vals[i] datas[i]) ∧ KD s.blobs kl.length kl datas ∧
  kl.Pairwise (fun x y => cmpH x y < 0) ∧ kl.length = s.n ∧ SB w' (.slice lA s.log.length lc) s.log
theorem media_p {w : World} {D : Nat} {F : Nat → Prop} {s : Hn} {k : Nat} {keys : List H32} {datas : List Bs} (h : Plain w D F s k) (hkd : KD s.blobs s.n keys datas) (hn : keys.length ≤ 4096) (hl : s.log.length ≤ 1048576) :
    Calls Try.prog 22 #[.pointer (some ⟨D, 0, none⟩)] w fun e w' => (∃ x, e = .returned x ∧ MediaV w w' s x) ∧ Below w.heap.size w w' := by
  obtain ⟨d, hA, hdn, rfl, hf⟩ := h
  obtain ⟨m, hC, -, ⟨lA0, lc0, hlv⟩, -⟩ := hA.parts
  obtain ⟨mv, hM, hdb⟩ := hC.blobs
  have hnn : d.n = keys.length := hkd.n
  have hsm : ∀ q l, d.blobs q = some l → l.length ≤ 1024 := fun q l hq => by
    have : q ∈ keys := (hkd.iff q).1 (by show (d.blobs q).isSome = true; rw [hq]; rfl)
    obtain ⟨i, hi, rfl⟩ := List.mem_iff_getElem.1 this
    have h1 := hkd.at_ i hi (by rw [hkd.len]; exact hi)
    have h2 : some l = some (datas[i]'(by rw [hkd.len]; exact hi)) := hq.symm.trans h1
    injection h2 with h2
    rw [h2]
    exact hkd.small _ (List.getElem_mem _)
  have hkn : ∀ kl : List H32, kl.Nodup → (∀ q, q ∈ kl ↔ (d.blobs q).isSome = true) → kl.length = keys.length := fun kl h1 h2 => ((List.perm_ext_iff_of_nodup h1 hkd.nd).2 (fun q => (h2 q).trans (hkd.iff q))).length_eq
  refine (media_any D m.B d.n (fdOf d m) mv d.blobs d.log w hC.dev rfl hM (by omega) (fun q => ?_) lA0 lc0 hlv ?_ hl (fun kl h1 h2 => by rw [hkn kl h1 h2]; omega)).mono ?_
  · have := hdb q
    unfold OptR at this ⊢
    split at this
    · next h1 h2 => trivial
    · next h1 h2 => exact ⟨this.1, by have := hsm q _ h2; omega⟩
    · exact this.elim
  · rw [← hlv]
    exact hC.log.1
  · rintro e w' ⟨bA, bc, lA, lc, kl, vals, rfl, h1, h2, h3, h4, h5, h6, h7⟩
    have hnd := sorted_nodup2 h1
    have hlen := hkn kl hnd h2
    refine ⟨⟨_, rfl, bA, bc, lA, lc, kl, vals, kl.map (fun q => (d.blobs q).getD []), rfl, h3, h4, fun i hi hi' => ?_, ⟨by simp, rfl, hnd, fun i hi hi' => ?_, fun q hq => ?_, fun l hl => ?_⟩, h1, hlen.trans hnn.symm, OwnB.sb h6⟩, h7⟩
    · obtain ⟨l, e1, e2⟩ := h5 i (by omega) hi
      simp only [List.getElem_map, e1, Option.getD_some]
      exact OwnB.sb e2
    · simp only [List.getElem_map]
      have := (h2 kl[i]).1 (List.getElem_mem hi)
      obtain ⟨l, hl⟩ := Option.isSome_iff_exists.1 this
      show d.blobs kl[i] = _
      rw [hl]; rfl
    · show d.blobs q = none
      cases hb : d.blobs q with
      | none => rfl
      | some l => exact absurd ((h2 q).2 (by rw [hb]; rfl)) hq
    · obtain ⟨q, hq, rfl⟩ := List.mem_map.1 hl
      obtain ⟨l, hl⟩ := Option.isSome_iff_exists.1 ((h2 q).1 hq)
      rw [hl]
      exact hsm q l hl
end Go.Proofs.Ytcbglojjbgenlaa
