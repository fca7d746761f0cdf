/- Nested lists of bytes and their form, in plain words: no program in sight. -/
import Derived.Test.YtdhkhdeblkbojaaLib
namespace Go.Proofs.Ytdhkhdeblkbojaa

inductive It where
  | mk (list : Bool) (bytes : List UInt8) (items : List It)

namespace It
def l : It → Bool | mk l _ _ => l
def b : It → List UInt8 | mk _ b _ => b
def xs : It → List It | mk _ _ xs => xs
end It

/-- A reader's answer: a value and the place behind it; or the place of the fault and its number. -/
inductive DR (α : Type) where
  | ok (x : α) (to : Nat)
  | bad (p : Nat) (e : Int)

/-- the number of bytes, the highest first -/
def beNat (l : List UInt8) : Nat := l.foldl (fun n c => n * 256 + c.toNat) 0
theorem beNat_snoc (l : List UInt8) (c : UInt8) : beNat (l ++ [c]) = beNat l * 256 + c.toNat := by simp [beNat]
theorem be_lt (l : List UInt8) : ∀ a : Nat, l.foldl (fun n c => n * 256 + c.toNat) a < (a + 1) * 256 ^ l.length := by
  induction l with
  | nil => intro a; simp
  | cons c r ih =>
    intro a
    have hc := c.toNat_lt
    have h1 := ih (a * 256 + c.toNat)
    have h2 : (a * 256 + c.toNat + 1) * 256 ^ r.length ≤ ((a + 1) * 256) * 256 ^ r.length := Nat.mul_le_mul_right _ (by omega)
    rw [List.foldl_cons, List.length_cons, Nat.pow_succ]
    have h3 : (a + 1) * (256 ^ r.length * 256) = ((a + 1) * 256) * 256 ^ r.length := by rw [Nat.mul_comm (256 ^ r.length) 256, Nat.mul_assoc]
    omega
theorem beNat_lt (l : List UInt8) : beNat l < 256 ^ l.length := by
  have := be_lt l 0
  simpa [beNat] using this

/-- the length that a head tells -/
def headN (b : List UInt8) (p e : Nat) : DR Nat :=
  if (b.getD p 0).toNat % 64 < 56 then .ok ((b.getD p 0).toNat % 64) (p + 1)
  else if e - (p + 1) < (b.getD p 0).toNat % 64 - 55 then .bad p 50
  else if (b.getD (p + 1) 0).toNat = 0 then .bad p 52
  else if 1048576 < beNat ((b.drop (p + 1)).take ((b.getD p 0).toNat % 64 - 55)) then .bad p 54
  else if beNat ((b.drop (p + 1)).take ((b.getD p 0).toNat % 64 - 55)) < 56 then .bad p 52
  else .ok (beNat ((b.drop (p + 1)).take ((b.getD p 0).toNat % 64 - 55))) (p + 1 + ((b.getD p 0).toNat % 64 - 55))

mutual
def decI : Nat → List UInt8 → Nat → Nat → Nat → DR It
  | 0, _, _, _, _ => .bad 0 0
  | f + 1, b, p, e, d =>
    if p = e then .bad p 50
    else if (b.getD p 0).toNat < 128 then .ok (.mk false [b.getD p 0] []) (p + 1)
    else if 192 ≤ (b.getD p 0).toNat ∧ 80 ≤ d then .bad p 53
    else match headN b p e with
      | .bad q r => .bad q r
      | .ok n to =>
        if e - to < n then .bad p 50
        else if 192 ≤ (b.getD p 0).toNat then match decL f b to (to + n) (d + 1) with
          | .bad q r => .bad q r
          | .ok xs to' => .ok (.mk true [] xs) to'
        else if n = 1 ∧ (b.getD to 0).toNat < 128 then .bad p 52
        else .ok (.mk false ((b.drop to).take n) []) (to + n)
def decL : Nat → List UInt8 → Nat → Nat → Nat → DR (List It)
  | 0, _, _, _, _ => .bad 0 0
  | f + 1, b, p, e, d =>
    if e ≤ p then .ok [] p
    else match decI f b p e d with
      | .bad q r => .bad q r
      | .ok x to => match decL f b to e d with
        | .bad q r => .bad q r
        | .ok xs to' => .ok (x :: xs) to'
end

theorem headN_to {b : List UInt8} {p e n to : Nat} (h : headN b p e = .ok n to) (hp : p < e) : p < to ∧ to ≤ e ∧ n ≤ 1048576 := by
  unfold headN at h
  split at h
  · cases h; omega
  · split at h
    · cases h
    · split at h
      · cases h
      · split at h
        · cases h
        · split at h
          · cases h
          · cases h; omega

theorem dec_to (f : Nat) : (∀ b p e d x to, p ≤ e → decI f b p e d = .ok x to → p < to ∧ to ≤ e) ∧ (∀ b p e d xs to, p ≤ e → decL f b p e d = .ok xs to → to = e) := by
  induction f with
  | zero => exact ⟨fun b p e d x to _ h => by simp [decI] at h, fun b p e d xs to _ h => by simp [decL] at h⟩
  | succ f ih =>
    refine ⟨fun b p e d x to hp h => ?_, fun b p e d xs to hp h => ?_⟩
    · rw [decI] at h
      split at h
      · cases h
      · split at h
        · cases h; omega
        · split at h
          · cases h
          · split at h
            · cases h
            · rename_i n to1 hh
              obtain ⟨h1, h2, h3⟩ := headN_to hh (by omega)
              split at h
              · cases h
              · split at h
                · split at h
                  · cases h
                  · rename_i xs to2 hl
                    have := ih.2 b to1 (to1 + n) (d + 1) xs to2 (by omega) hl
                    cases h
                    omega
                · split at h
                  · cases h
                  · cases h; omega
    · rw [decL] at h
      split at h
      · cases h; omega
      · split at h
        · cases h
        · rename_i x to1 hi
          have h1 := ih.1 b p e d x to1 hp hi
          split at h
          · cases h
          · rename_i xs2 to2 hl
            have := ih.2 b to1 e d xs2 to2 (by omega) hl
            cases h
            exact this
end Go.Proofs.Ytdhkhdeblkbojaa
