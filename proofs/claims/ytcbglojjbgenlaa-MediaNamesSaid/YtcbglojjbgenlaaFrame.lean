/- From the form's reading of the arguments to the words of the walks. -/
import Derived.Test.YtcbglojjbgenlaaLib
import Derived.Test.YtcbglojjbgenlaaRows
import Derived.ProofKit
import Derived.OpenShut
import Derived.ShutString
import Derived.ChangeOld
import Derived.SizedLaws
import Derived.JoinedCond
import Derived.Deep.CondSized
namespace Go.Proofs.Ytcbglojjbgenlaa
open Go.ChangeShapes Go.WideShapes Go.ChangeAt Go.RowKit

theorem Fr.own : ownKnob Try.prog.godebug = none := by kernel_rfl
theorem Fr.laidOut : laidOutB Try.prog = true := by kernel_rfl

theorem view_bytes {H : Type} {enc : TypeId × Value → H} {W : World} {base : Nat} {spare : Nat → Bool} {held : Bool} {fuel : Nat} {a : Option Addr} {len cap : Nat} {x : DataW H × List MemPlace}
    (h : DataW.trod enc Try.prog W base spare held fuel 29 [.slice a len cap] = some x) :
    ∃ l : List UInt8, l.length = len ∧ SB W (.slice a len cap) l ∧ ((x.1 = .nil ∧ len = 0) ∨ ∃ el sp, x.1 = .slice el sp ∧ el.length = len) := by
  rcases open_ints Try.underlying29 Try.underlying5 (by kernel_rfl) h with ⟨hcs, hx⟩ | ⟨ad, l, c, zs, hcs, _, hl, hm, hz, hx, hcell, hwz⟩
  · simp at hcs
    obtain ⟨rfl, rfl, rfl⟩ := hcs
    exact ⟨[], rfl, SB.nil W, .inl ⟨by rw [hx], rfl⟩⟩
  · simp at hcs
    obtain ⟨rfl, rfl, rfl⟩ := hcs
    have hzl : len ≤ zs.length := by rw [hz]; split <;> omega
    have hll : ((zs.take len).map fun n => UInt8.ofNat n.toNat).length = len := by simp; omega
    refine ⟨(zs.take len).map fun n => UInt8.ofNat n.toNat, hll, ⟨some ad, cap, by rw [hll], fun k hk => ?_, by rw [hll]; exact hl, hm, fun e => by cases e⟩, .inr ⟨_, _, by rw [hx], by simp [lits]; omega⟩⟩
    have hk' : k < len := by rw [hll] at hk; exact hk
    have hc := hcell k (by omega)
    obtain ⟨b, off, spot⟩ := ad
    have hspot : spot = none := by
      have h0 := hcell 0 (by omega)
      have := World.cell?_spot h0
      simpa [Addr.add] using this
    subst hspot
    rw [addr_add] at hc
    refine ⟨b, off, rfl, ?_⟩
    rw [hc]
    have hw := hwz (zs.getD k 0) (by
      have hkz : k < zs.length := by omega
      simp [List.getD, hkz])
    have hb : 0 ≤ zs.getD k 0 ∧ zs.getD k 0 < 256 := by
      have := bounds_u8 hw
      omega
    have hget : (((zs.take len).map fun n => UInt8.ofNat n.toNat)[k]'hk) = UInt8.ofNat (zs.getD k 0).toNat := by
      have hkz : k < zs.length := by omega
      simp [List.getD, hkz]
    rw [hget]
    simp only [UInt8.toNat_ofNat']
    congr 2
    omega

/-- what the bound on the arguments gives -/
theorem bulk_one {H : Type} (d : DataW H) : 1 ≤ Rows.uptoBulk d := by
  cases d with
  | lit l => cases l <;> simp [Rows.uptoBulk]
  | _ => simp [Rows.uptoBulk]
theorem bulk_length {H : Type} (l : List (DataW H)) : l.length ≤ Rows.uptoBulkAll l := by
  induction l with
  | nil => simp [Rows.uptoBulkAll]
  | cons x r ih => have := bulk_one x; simp only [Rows.uptoBulkAll, List.length_cons]; omega
theorem bulk_slice {H : Type} (el sp : List (DataW H)) : el.length + 1 ≤ Rows.uptoBulk (.slice el sp) := by
  have h1 := bulk_length el
  simp only [Rows.uptoBulk]
  omega
theorem bulk_bound {H : Type} {l : List (DataW H)} (hk : Rows.uptoSmall H l = true) : Rows.uptoBulkAll l ≤ 1048576 := of_decide_eq_true hk
theorem bulk_bytes {H : Type} {d : DataW H} {len : Nat} (h : (d = .nil ∧ len = 0) ∨ ∃ el sp, d = .slice el sp ∧ el.length = len) : len ≤ Rows.uptoBulk d := by
  rcases h with ⟨_, rfl⟩ | ⟨el, sp, rfl, rfl⟩
  · omega
  · have := bulk_slice el sp; omega
end Go.Proofs.Ytcbglojjbgenlaa
