/- Plain: what the document's Read for backups answers. Conditions: none. -/
import Derived.Test.YtanelaajdajjnaaM5
namespace Go.Proofs.Ytanelaajdajjnaa
open Go.RowKit Go.Proofs.YtanelaajdajjnaaW.PrintWords
open PBackupReads
set_option linter.unusedVariables false
/-- The document's number at the begin of bytes: its value, how many bytes it took. -/
def rn : Nat → Nat → Int → List Int → Option (Int × Nat)
  | 0, _, _, _ => none
  | _ + 1, _, _, [] => none
  | m + 1, i, n, c :: t => if c < 128 then some (n + c % 128 * 128 ^ i, i + 1) else rn m (i + 1) (n + c % 128 * 128 ^ i) t
theorem pow128 (i : Nat) (h : i ≤ 4) : (1 : Int) ≤ 128 ^ i ∧ (128 : Int) ^ i ≤ 268435456 := by
  rcases (show i = 0 ∨ i = 1 ∨ i = 2 ∨ i = 3 ∨ i = 4 by omega) with rfl | rfl | rfl | rfl | rfl <;> decide
theorem mul_bound (c p : Int) (h0 : 0 ≤ c) (h1 : c ≤ 127) (hp0 : 1 ≤ p) (hp : p ≤ 268435456) : 0 ≤ c * p ∧ c * p ≤ 127 * p := ⟨Int.mul_nonneg h0 (by omega), Int.mul_le_mul_of_nonneg_right h1 (by omega)⟩
def rnR (at_ : Nat) : Option (Int × Nat) → Int × Int
  | none => (-1, at_)
  | some (z, c) => (z, ((at_ + c : Nat) : Int))
theorem rn_is (b : List Int) (a : Nat) (hb : ∀ c ∈ b, IsByte c) (ha : a ≤ b.length) (hl : b.length ≤ 1000000) : ∀ (m i : Nat) (n : Int), i + m = 4 → 0 ≤ n → n < 128 ^ i →
    Evt (fun k => trencherref33_number.l0 k b a n (128 ^ i) i) (rnR a (rn m i n (b.drop (a + i))))
  | 0, i, n, hi, h0, h1 => by
    refine Evt.step (g' := fun _ => some _) (fun k => ?_) Evt.pure
    simp only [trencherref33_number.l0, rn]
    rw [if_neg (by omega)]; rfl
  | m + 1, i, n, hi, h0, h1 => by
    have hp := pow128 i (by omega)
    by_cases hlt : a + i < b.length
    · have hd : b.drop (a + i) = b[a + i] :: b.drop (a + (i + 1)) := List.drop_eq_getElem_cons hlt
      obtain ⟨c, hc⟩ : ∃ c, c = b[a + i] := ⟨_, rfl⟩
      have hcb := hb c (by rw [hc]; simp)
      rw [← hc] at hd
      have hrd : rd b ((a + i : Nat) : Int) = c := by
        unfold rd
        rw [Int.toNat_natCast, List.getD_eq_getElem?_getD, List.getElem?_eq_getElem hlt, Option.getD_some, hc]
      have hmb := mul_bound (c % 128) (128 ^ i) (by omega) (by omega) hp.1 hp.2
      have e1 : wrap64 (Int.tmod c 128) = c % 128 := by rw [Int.tmod_eq_emod_of_nonneg hcb.1]; unfold wrap64; omega
      have e2 : wrap64 (c % 128 * 128 ^ i) = c % 128 * 128 ^ i := by unfold wrap64; omega
      have e3 : wrap64 (n + c % 128 * 128 ^ i) = n + c % 128 * 128 ^ i := by unfold wrap64; omega
      rw [hd]
      simp only [rn]
      by_cases hc1 : c < 128
      · rw [if_pos hc1]
        refine Evt.step (g' := fun _ => some _) (fun k => ?_) Evt.pure
        simp only [trencherref33_number.l0]
        rw [if_pos (by omega), wrap_add a i (by omega), if_neg (by omega), if_pos (by omega), if_pos (by omega), hrd, if_pos hc1, e1, e2, e3, wrap_nat (a + i) (by omega)]
        simp [rnR]; omega
      · rw [if_neg hc1]
        have e4 : wrap64 ((128 : Int) ^ i * 128) = 128 ^ (i + 1) := by rw [Int.pow_succ]; unfold wrap64; omega
        refine Evt.step (fun k => ?_) (rn_is b a hb ha hl m (i + 1) (n + c % 128 * 128 ^ i) (by omega) (by omega) (by rw [Int.pow_succ]; omega))
        simp only [trencherref33_number.l0]
        rw [if_pos (by omega), wrap_add a i (by omega), if_neg (by omega), if_pos (by omega), if_pos (by omega), hrd, if_neg hc1, e1, e2, e3, e4, wrap_nat i (by omega)]
    · rw [List.drop_eq_nil_of_le (by omega)]
      refine Evt.step (g' := fun _ => some _) (fun k => ?_) Evt.pure
      simp only [trencherref33_number.l0, rn]
      rw [if_pos (by omega), wrap_add a i (by omega), if_pos (by omega)]; rfl
theorem refnum_is (b : List Int) (a : Nat) (hb : ∀ c ∈ b, IsByte c) (ha : a ≤ b.length) (hl : b.length ≤ 1000000) : Evt (fun k => trencherref33_number.f k b a) (rnR a (rn 4 0 0 (b.drop a))) :=
  rn_is b a hb ha hl 4 0 0 rfl (by omega) (by decide)
theorem rn_spec : ∀ (m i : Nat) (n : Int) (t : List Int) (z : Int) (c : Nat), i + m = 4 → 0 ≤ n → n < 128 ^ i → (∀ x ∈ t, IsByte x) → rn m i n t = some (z, c) → 0 ≤ z ∧ z < 268435456 ∧ i < c ∧ c - i ≤ t.length
  | 0, _, _, _, _, _, _, _, _, _, h => by simp [rn] at h
  | m + 1, _, _, [], _, _, _, _, _, _, h => by simp [rn] at h
  | m + 1, i, n, x :: t, z, c, hi, h0, h1, hb, h => by
    have hp := pow128 i (by omega)
    have hp1 := pow128 (i + 1) (by omega)
    have hx := hb x (by simp)
    have hmb := mul_bound (x % 128) (128 ^ i) (by omega) (by omega) hp.1 hp.2
    rw [Int.pow_succ] at hp1
    simp only [rn] at h
    split at h
    · injection h with h
      injection h with h2 h3
      subst h2 h3
      refine ⟨by omega, by omega, by omega, by simp⟩
    · have := rn_spec m (i + 1) _ t z c (by omega) (by omega) (by rw [Int.pow_succ]; omega) (fun y hy => hb y (by simp [hy])) h
      simp; omega
/-- A number's bytes are read as it. -/
theorem rn_numB : ∀ (j m i : Nat) (n acc : Int) (r : List Int), 0 ≤ n → n < 128 ^ (j + 1) → j + 1 ≤ m → rn m i acc (numB (j + 1) n ++ r) = some (acc + n * 128 ^ i, i + (numB (j + 1) n).length)
  | _, 0, _, _, _, _, _, _, h => absurd h (by omega)
  | 0, m + 1, i, n, acc, r, h0, h1, hm => by
    have hn : n < 128 := by omega
    rw [show numB (0 + 1) n = [n] by simp [numB, hn]]
    simp only [List.cons_append, List.nil_append, rn]
    rw [if_pos hn, show n % 128 = n by omega]; rfl
  | j + 1, m + 1, i, n, acc, r, h0, h1, hm => by
    by_cases hn : n < 128
    · rw [show numB (j + 1 + 1) n = [n] by simp [numB, hn]]
      simp only [List.cons_append, List.nil_append, rn]
      rw [if_pos hn, show n % 128 = n by omega]; rfl
    · rw [show numB (j + 1 + 1) n = (n % 128 + 128) :: numB (j + 1) (n / 128) by simp [numB, hn]]
      have ih := rn_numB j m (i + 1) (n / 128) (acc + n % 128 * 128 ^ i) r (by omega) (by rw [Int.pow_succ] at h1; omega) (by omega)
      simp only [List.cons_append, rn]
      rw [if_neg (by omega), show (n % 128 + 128) % 128 = n % 128 by omega, ih]
      have e : acc + n % 128 * 128 ^ i + n / 128 * 128 ^ (i + 1) = acc + n * 128 ^ i := by
        rw [Int.pow_succ, Int.mul_comm (128 ^ i) 128, ← Int.mul_assoc, Int.add_assoc, ← Int.add_mul]
        congr 2; omega
      rw [e]; simp; omega
theorem numB_less : ∀ (j m : Nat) (n : Int), 0 ≤ n → n < 128 ^ (j + 1) → numB (j + 1 + m) n = numB (j + 1) n
  | 0, m, n, h0, h1 => by
    have hn : n < 128 := by omega
    rw [show 0 + 1 + m = m + 1 by omega]
    simp [numB, hn]
  | j + 1, m, n, h0, h1 => by
    rw [show j + 1 + 1 + m = (j + 1 + m) + 1 by omega]
    by_cases hn : n < 128
    · simp [numB, hn]
    · have ih := numB_less j m (n / 128) (by omega) (by rw [Int.pow_succ] at h1; omega)
      simp only [numB] at ih ⊢
      rw [if_neg hn, if_neg hn, ih]
theorem rn_read (n : Nat) (h : n ≤ 16384) (r : List Int) : rn 4 0 0 (numB 9 n ++ r) = some ((n : Int), (numB 9 n).length) := by
  have e := numB_less 2 6 (n : Int) (by omega) (by omega)
  have := rn_numB 2 4 0 (n : Int) 0 r (by omega) (by omega) (by omega)
  rw [show (2 + 1 + 6) = 9 from rfl] at e
  rw [e]
  simpa using this
end Go.Proofs.Ytanelaajdajjnaa
