/- A rune's own bytes give that rune back: over every number; what is no rune gives U+FFFD. -/
import Derived.Test.YtgegclilhjhnmaaDoorIdent
set_option linter.unusedVariables false
set_option linter.unusedSimpArgs false
namespace Go.Proofs.YtgegclilhjhnmaaDoor.X
open Go.RowKit
theorem u8_nat {x : Nat} (h : x < 256) : (UInt8.ofNat x).toNat = x := by simp [UInt8.toNat_ofNat']; omega
theorem decode_1 {x : Nat} (h : x < 128) : Utf8.decode ⟨#[UInt8.ofNat x]⟩ 0 = (x, 1) := by
  have e0 : (ByteArray.get! ⟨#[UInt8.ofNat x]⟩ (0 + 0)).toNat = x := u8_nat (by omega)
  unfold Utf8.decode
  simp only [e0]
  rw [if_pos (by omega)]
theorem decode_2 {x y : Nat} (hx : x < 256) (hy : y < 256) (h1 : x / 32 = 6) (h2 : y / 64 = 2) (h3 : 128 ≤ x % 32 * 64 + y % 64) : Utf8.decode ⟨#[UInt8.ofNat x, UInt8.ofNat y]⟩ 0 = (x % 32 * 64 + y % 64, 2) := by
  have e0 : (ByteArray.get! ⟨#[UInt8.ofNat x, UInt8.ofNat y]⟩ (0 + 0)).toNat = x := u8_nat hx
  have e1 : (ByteArray.get! ⟨#[UInt8.ofNat x, UInt8.ofNat y]⟩ (0 + 1)).toNat = y := u8_nat hy
  have sz : (ByteArray.mk #[UInt8.ofNat x, UInt8.ofNat y]).size = 2 := rfl
  unfold Utf8.decode
  simp only [e0, e1, sz]
  rw [if_neg (by omega), if_pos (by simp [h1, h2]), if_pos (by omega)]
theorem decode_3 {x y z : Nat} (hx : x < 256) (hy : y < 256) (hz : z < 256) (h1 : x / 16 = 14) (h2 : y / 64 = 2) (h3 : z / 64 = 2) (h4 : 2048 ≤ x % 16 * 4096 + y % 64 * 64 + z % 64) (h5 : Utf8.valid ((x % 16 * 4096 + y % 64 * 64 + z % 64 : Nat) : Int) = true) :
    Utf8.decode ⟨#[UInt8.ofNat x, UInt8.ofNat y, UInt8.ofNat z]⟩ 0 = (x % 16 * 4096 + y % 64 * 64 + z % 64, 3) := by
  have e0 : (ByteArray.get! ⟨#[UInt8.ofNat x, UInt8.ofNat y, UInt8.ofNat z]⟩ (0 + 0)).toNat = x := u8_nat hx
  have e1 : (ByteArray.get! ⟨#[UInt8.ofNat x, UInt8.ofNat y, UInt8.ofNat z]⟩ (0 + 1)).toNat = y := u8_nat hy
  have e2 : (ByteArray.get! ⟨#[UInt8.ofNat x, UInt8.ofNat y, UInt8.ofNat z]⟩ (0 + 2)).toNat = z := u8_nat hz
  have sz : (ByteArray.mk #[UInt8.ofNat x, UInt8.ofNat y, UInt8.ofNat z]).size = 3 := rfl
  have n6 : (x / 32 == 6) = false := beq_eq_false_iff_ne.mpr (by omega)
  unfold Utf8.decode
  simp only [e0, e1, e2, sz]
  rw [if_neg (by omega), if_neg (by rw [n6]; simp), if_pos (by simp [h1, h2, h3]), if_pos (by rw [h5]; simp; omega)]
theorem decode_4 {x y z u : Nat} (hx : x < 256) (hy : y < 256) (hz : z < 256) (hu : u < 256) (h1 : x / 8 = 30) (h2 : y / 64 = 2) (h3 : z / 64 = 2) (h4 : u / 64 = 2) (h5 : 65536 ≤ x % 8 * 262144 + y % 64 * 4096 + z % 64 * 64 + u % 64)
    (h6 : Utf8.valid ((x % 8 * 262144 + y % 64 * 4096 + z % 64 * 64 + u % 64 : Nat) : Int) = true) :
    Utf8.decode ⟨#[UInt8.ofNat x, UInt8.ofNat y, UInt8.ofNat z, UInt8.ofNat u]⟩ 0 = (x % 8 * 262144 + y % 64 * 4096 + z % 64 * 64 + u % 64, 4) := by
  have e0 : (ByteArray.get! ⟨#[UInt8.ofNat x, UInt8.ofNat y, UInt8.ofNat z, UInt8.ofNat u]⟩ (0 + 0)).toNat = x := u8_nat hx
  have e1 : (ByteArray.get! ⟨#[UInt8.ofNat x, UInt8.ofNat y, UInt8.ofNat z, UInt8.ofNat u]⟩ (0 + 1)).toNat = y := u8_nat hy
  have e2 : (ByteArray.get! ⟨#[UInt8.ofNat x, UInt8.ofNat y, UInt8.ofNat z, UInt8.ofNat u]⟩ (0 + 2)).toNat = z := u8_nat hz
  have e3 : (ByteArray.get! ⟨#[UInt8.ofNat x, UInt8.ofNat y, UInt8.ofNat z, UInt8.ofNat u]⟩ (0 + 3)).toNat = u := u8_nat hu
  have sz : (ByteArray.mk #[UInt8.ofNat x, UInt8.ofNat y, UInt8.ofNat z, UInt8.ofNat u]).size = 4 := rfl
  have n6 : (x / 32 == 6) = false := beq_eq_false_iff_ne.mpr (by omega)
  have n14 : (x / 16 == 14) = false := beq_eq_false_iff_ne.mpr (by omega)
  unfold Utf8.decode
  simp only [e0, e1, e2, e3, sz]
  rw [if_neg (by omega), if_neg (by rw [n6]; simp), if_neg (by rw [n14]; simp), if_pos (by simp [h1, h2, h3, h4]), if_pos (by rw [h6]; simp; omega)]
theorem runes_one {s : ByteArray} {c n : Nat} (hn : 0 < n) (hs : s.size = n) (hd : Utf8.decode s 0 = (c, n)) : runesOf s = [c] := by
  unfold runesOf
  obtain ⟨m, rfl⟩ : ∃ m, n = m + 1 := ⟨n - 1, by omega⟩
  rw [hs, runesFrom_next s m 0 (by omega), hd, runesFrom_end s m _ (by simp; omega)]
/-- The number that a rune's bytes stand for. -/
def runeV (r : Int) : Nat := if Utf8.valid r = true then r.toNat else 65533
theorem runes_encode (r : Int) : runesOf (Utf8.encode r) = [runeV r] := by
  have hv : Utf8.valid ((runeV r : Nat) : Int) = true ∧ runeV r ≤ 1114111 := by
    unfold runeV
    by_cases h : Utf8.valid r = true
    · rw [if_pos h]
      have h2 := h
      unfold Utf8.valid at h2
      simp only [Bool.or_eq_true, Bool.and_eq_true, decide_eq_true_eq] at h2
      have h3 : ((r.toNat : Nat) : Int) = r := by omega
      rw [h3]
      exact ⟨h, by omega⟩
    · rw [if_neg h]
      exact ⟨by decide, by omega⟩
  have he : Utf8.encode r = (if runeV r < 0x80 then ⟨#[UInt8.ofNat (runeV r)]⟩
      else if runeV r < 0x800 then ⟨#[UInt8.ofNat (0xC0 + runeV r / 64), UInt8.ofNat (0x80 + runeV r % 64)]⟩
      else if runeV r < 0x10000 then ⟨#[UInt8.ofNat (0xE0 + runeV r / 4096), UInt8.ofNat (0x80 + runeV r / 64 % 64), UInt8.ofNat (0x80 + runeV r % 64)]⟩
      else ⟨#[UInt8.ofNat (0xF0 + runeV r / 262144), UInt8.ofNat (0x80 + runeV r / 4096 % 64), UInt8.ofNat (0x80 + runeV r / 64 % 64), UInt8.ofNat (0x80 + runeV r % 64)]⟩) := rfl
  rw [he]
  generalize runeV r = c at hv
  obtain ⟨hv, hc⟩ := hv
  by_cases h1 : c < 0x80
  · rw [if_pos h1]
    exact runes_one (n := 1) (by omega) rfl (decode_1 h1)
  · rw [if_neg h1]
    by_cases h2 : c < 0x800
    · rw [if_pos h2]
      have e : (0xC0 + c / 64) % 32 * 64 + (0x80 + c % 64) % 64 = c := by omega
      have hd := decode_2 (x := 0xC0 + c / 64) (y := 0x80 + c % 64) (by omega) (by omega) (by omega) (by omega) (by omega)
      rw [e] at hd
      exact runes_one (n := 2) (by omega) rfl hd
    · rw [if_neg h2]
      by_cases h3 : c < 0x10000
      · rw [if_pos h3]
        have e : (0xE0 + c / 4096) % 16 * 4096 + (0x80 + c / 64 % 64) % 64 * 64 + (0x80 + c % 64) % 64 = c := by omega
        have hd := decode_3 (x := 0xE0 + c / 4096) (y := 0x80 + c / 64 % 64) (z := 0x80 + c % 64) (by omega) (by omega) (by omega) (by omega) (by omega) (by omega) (by omega) (by rw [e]; exact hv)
        rw [e] at hd
        exact runes_one (n := 3) (by omega) rfl hd
      · rw [if_neg h3]
        have e : (0xF0 + c / 262144) % 8 * 262144 + (0x80 + c / 4096 % 64) % 64 * 4096 + (0x80 + c / 64 % 64) % 64 * 64 + (0x80 + c % 64) % 64 = c := by omega
        have hd := decode_4 (x := 0xF0 + c / 262144) (y := 0x80 + c / 4096 % 64) (z := 0x80 + c / 64 % 64) (u := 0x80 + c % 64) (by omega) (by omega) (by omega) (by omega) (by omega) (by omega) (by omega) (by omega) (by omega) (by rw [e]; exact hv)
        rw [e] at hd
        exact runes_one (n := 4) (by omega) rfl hd
theorem name_one (c : Nat) : nameV [c] = letterV c := by
  unfold nameV
  rw [nameGo, nameGo]
  by_cases h : letterV c = true
  · rw [if_pos ⟨by unfold insideV; rw [h]; rfl, fun _ => h⟩, h]; rfl
  · rw [if_neg (fun q => h (q.2 rfl)), Bool.eq_false_iff.mpr h]
end Go.Proofs.YtgegclilhjhnmaaDoor.X
