/- Plain facts on bits of whole numbers, and the plain readers of a backup's bytes. Conditions: none. -/
import Derived.Laws.BitsLemmas
import Derived.WalkKit
namespace Go.Proofs.Ytanelaajdajjnaa
open Go.RowKit
set_option linter.unusedVariables false

theorem wraps_i64 (n : Int) (h₀ : 0 ≤ n) (h₁ : n < 2 ^ 63) : IntKind.i64.wrap n = n := by rw [IntKind.wrap_i64]; omega
theorem wraps_u32 (n : Int) (h₀ : 0 ≤ n) (h₁ : n < 2 ^ 32) : IntKind.u32.wrap n = n := by rw [IntKind.wrap_u32]; omega
theorem wraps_u64 (n : Int) (h₀ : 0 ≤ n) (h₁ : n < 2 ^ 64) : IntKind.u64.wrap n = n := by simp [IntKind.wrap, IntKind.bits, IntKind.signed]; omega

theorem pow_le_56 (i : Nat) (h : i ≤ 8) : (2 : Int) ^ (7 * i) ≤ 72057594037927936 := by
  have : (2 : Nat) ^ (7 * i) ≤ 2 ^ 56 := Nat.pow_le_pow_right (by decide) (by omega)
  have h2 : ((2 ^ (7 * i) : Nat) : Int) ≤ ((2 ^ 56 : Nat) : Int) := by exact_mod_cast this
  simpa using h2
theorem pow_pos_ (i : Nat) : (0 : Int) < 2 ^ i := by
  have : 0 < 2 ^ i := Nat.two_pow_pos i
  exact_mod_cast this
theorem and127 (c : Int) (h0 : 0 ≤ c) (h1 : c ≤ 255) : bits .and .u8 c 127 = c % 128 := by
  have := bits_mask .u8 8 (by decide) wraps_u8 7 (by decide) c h0 (by omega)
  simpa using this
/-- One digit more of a number. -/
theorem digit_shift (c : Int) (i : Nat) (h0 : 0 ≤ c) (hi : i ≤ 8) : wrap64 (c % 128 * 2 ^ (7 * i)) = c % 128 * 2 ^ (7 * i) := by
  have h1 := pow_le_56 i hi
  have h2 := pow_pos_ (7 * i)
  have h3 : 0 ≤ c % 128 * 2 ^ (7 * i) := Int.mul_nonneg (by omega) (by omega)
  have h4 : c % 128 * 2 ^ (7 * i) ≤ 127 * 72057594037927936 := Int.mul_le_mul (by omega) h1 (by omega) (by omega)
  unfold wrap64
  omega
theorem digit_join (n c : Int) (i : Nat) (h0 : 0 ≤ c) (hi : i ≤ 8) (hn0 : 0 ≤ n) (hn1 : n < 2 ^ (7 * i)) : bits .or .i64 n (c % 128 * 2 ^ (7 * i)) = n + c % 128 * 2 ^ (7 * i) := by
  have h1 := pow_le_56 i hi
  have h2 := pow_pos_ (7 * i)
  have h3 : 0 ≤ c % 128 * 2 ^ (7 * i) := Int.mul_nonneg (by omega) (by omega)
  have h4 : c % 128 * 2 ^ (7 * i) ≤ 127 * 72057594037927936 := Int.mul_le_mul (by omega) h1 (by omega) (by omega)
  have := bits_join .i64 63 (by decide) wraps_i64 (7 * i) (c % 128 * 2 ^ (7 * i)) n h3 (Int.mul_emod_left _ _) (by omega) hn0 hn1 (by omega)
  have hc : bits .or .i64 n (c % 128 * 2 ^ (7 * i)) = bits .or .i64 (c % 128 * 2 ^ (7 * i)) n := by
    simp [bits, BitVec.or_comm]
  rw [hc, this]; omega
theorem digit_lt (n c : Int) (i : Nat) (h0 : 0 ≤ c) (hn0 : 0 ≤ n) (hn1 : n < 2 ^ (7 * i)) : 0 ≤ n + c % 128 * 2 ^ (7 * i) ∧ n + c % 128 * 2 ^ (7 * i) < 2 ^ (7 * (i + 1)) := by
  have h2 := pow_pos_ (7 * i)
  have h3 : 0 ≤ c % 128 * 2 ^ (7 * i) := Int.mul_nonneg (by omega) (by omega)
  have h4 : c % 128 * 2 ^ (7 * i) ≤ 127 * 2 ^ (7 * i) := Int.mul_le_mul_of_nonneg_right (by omega) (by omega)
  have h5 : (2 : Int) ^ (7 * (i + 1)) = 128 * 2 ^ (7 * i) := by rw [Nat.mul_add, Int.pow_add]; omega
  omega

/-- A number that stands at the begin of bytes: m digits at most, i ahead of it, n so far. -/
def numO : Nat → Nat → Int → List Int → Option (Int × List Int)
  | 0, _, _, _ => none
  | _ + 1, _, _, [] => none
  | m + 1, i, n, c :: r => if c < 128 then (if i = 0 ∨ c ≠ 0 then some (n + c % 128 * 2 ^ (7 * i), r) else none) else numO m (i + 1) (n + c % 128 * 2 ^ (7 * i)) r

def IsByte (c : Int) : Prop := 0 ≤ c ∧ c ≤ 255
theorem numO_spec : ∀ (m i : Nat) (n : Int) (b : List Int) (z : Int) (r : List Int), m + i ≤ 9 → 0 ≤ n → n < 2 ^ (7 * i) → (∀ c ∈ b, IsByte c) → numO m i n b = some (z, r) →
    0 ≤ z ∧ z < 9223372036854775808 ∧ r.length < b.length ∧ (∀ c ∈ r, IsByte c) := by
  intro m
  induction m with
  | zero => intro i n b z r _ _ _ _ h; simp [numO] at h
  | succ m ih =>
    intro i n b z r hm h0 h1 hb h
    cases b with
    | nil => simp [numO] at h
    | cons c t =>
      have hc := hb c (by simp)
      have hd := digit_lt n c i hc.1 h0 h1
      simp only [numO] at h
      split at h
      · split at h
        · injection h with h
          injection h with h2 h3
          subst h2 h3
          have : (2 : Int) ^ (7 * (i + 1)) ≤ 9223372036854775808 := by
            have : (2 : Nat) ^ (7 * (i + 1)) ≤ 2 ^ 63 := Nat.pow_le_pow_right (by decide) (by omega)
            have h2 : ((2 ^ (7 * (i + 1)) : Nat) : Int) ≤ ((2 ^ 63 : Nat) : Int) := by exact_mod_cast this
            simpa using h2
          exact ⟨hd.1, by omega, by simp, fun x hx => hb x (by simp [hx])⟩
        · simp at h
      · have := ih (i + 1) _ t z r (by omega) hd.1 hd.2 (fun x hx => hb x (by simp [hx])) h
        exact ⟨this.1, this.2.1, by simp; omega, this.2.2.2⟩

/-- What slices.Backward yields: places and numbers, from the last one on. -/
def backs (l : List Int) (k : Nat) : List (Nat × Int) := (List.range k).map fun j => (l.length - 1 - j, l[l.length - 1 - j]?.getD 0)
theorem backs_succ (l : List Int) (k : Nat) : backs l (k + 1) = backs l k ++ [(l.length - 1 - k, l[l.length - 1 - k]?.getD 0)] := by simp [backs, List.range_succ]
theorem backs_length (l : List Int) (k : Nat) : (backs l k).length = k := by simp [backs]
/-- What a round makes of the number so far. -/
def upV (x c : Int) : Int := bits .or .u64 (IntKind.u64.wrap (x * 256)) (IntKind.u64.wrap c)
def foldV (pre : List (Nat × Int)) : Int := pre.foldl (fun x p => upV x p.2) 0
/-- The number that eight bytes make. -/
def wordV (l : List Int) : Int := foldV (backs l l.length)
/-- Some words out of bytes. -/
def takeW : Nat → List Int → List Int → Option (List Int × List Int)
  | 0, out, b => some (out, b)
  | m + 1, out, b => if 8 ≤ b.length then takeW m (out ++ [wordV (b.take 8)]) (b.drop 8) else none
/-- The words that stand there, so many. -/
def wordsO : Nat → Nat → List Int → List Int → Option (List Int × List Int)
  | 0, _, _, _ => none
  | k + 1, many, out, b => if out.length < many then
      (match numO 9 0 0 b with
      | none => none
      | some (z, b1) => if z ≤ (many : Int) - out.length then
          (if (out ++ List.replicate z.toNat 0).length = many then some (out ++ List.replicate z.toNat 0, b1) else
          (match numO 9 0 0 b1 with
          | none => none
          | some (n, b2) => if n ≤ (many : Int) - (out ++ List.replicate z.toNat 0).length then
              (match takeW n.toNat (out ++ List.replicate z.toNat 0) b2 with
              | none => none
              | some (out2, b3) => wordsO k many out2 b3) else none)) else none)
    else some (out, b)
theorem takeW_spec : ∀ (m : Nat) (out b o2 b2 : List Int), takeW m out b = some (o2, b2) → o2.length = out.length + m ∧ b2.length ≤ b.length ∧ (∀ c ∈ b2, c ∈ b) := by
  intro m
  induction m with
  | zero => intro out b o2 b2 h; simp [takeW] at h; obtain ⟨rfl, rfl⟩ := h; simp
  | succ m ih =>
    intro out b o2 b2 h
    simp only [takeW] at h
    split at h
    · have := ih _ _ _ _ h
      refine ⟨by have := this.1; simp at this; omega, by have := this.2.1; simp at this; omega, fun c hc => List.mem_of_mem_drop (this.2.2 c hc)⟩
    · simp at h

theorem wordsO_len : ∀ (k many : Nat) (out b o r : List Int), out.length ≤ many → wordsO k many out b = some (o, r) → o.length = many
  | 0, _, _, _, _, _, _, h => by simp [wordsO] at h
  | k + 1, many, out, b, o, r, hl, h => by
    simp only [wordsO] at h
    split at h
    · split at h
      · simp at h
      · rename_i z b1 hz
        split at h
        · split at h
          · rename_i h2
            injection h with h
            injection h with h3 h4
            rw [← h3]; exact h2
          · split at h
            · simp at h
            · rename_i n b2 hn
              split at h
              · split at h
                · simp at h
                · rename_i o2 b3 ht
                  refine wordsO_len k many o2 b3 o r ?_ h
                  have := (takeW_spec _ _ _ _ _ ht).1
                  rename_i hz2 hd hn2
                  simp at this hn2 hz2 hd
                  omega
              · simp at h
        · simp at h
    · injection h with h
      injection h with h3 h4
      rw [← h3]; omega
end Go.Proofs.Ytanelaajdajjnaa
