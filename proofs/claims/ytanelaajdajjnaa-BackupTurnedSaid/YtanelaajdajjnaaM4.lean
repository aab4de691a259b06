/- Plain: the document's answers for backups are the program's. Conditions: none. -/
import Derived.Test.YtanelaajdajjnaaPBackupReadsx
import Derived.Test.YtanelaajdajjnaaM3
namespace Go.Proofs.Ytanelaajdajjnaa
open Go.RowKit Go.Proofs.YtanelaajdajjnaaW.PrintWords
open PBackupReads
set_option linter.unusedVariables false
/-- With rounds enough, the answer. -/
def Evt {α : Type} (g : Nat → Option α) (r : α) : Prop := ∃ K, ∀ k, K ≤ k → g k = some r
theorem Evt.succ {α : Type} {g : Nat → Option α} {r : α} (h : Evt (fun k => g (k + 1)) r) : Evt g r := by
  obtain ⟨K, h⟩ := h
  exact ⟨K + 1, fun k hk => by obtain ⟨j, rfl⟩ : ∃ j, k = j + 1 := ⟨k - 1, by omega⟩; exact h j (by omega)⟩
theorem Evt.step {α : Type} {g g' : Nat → Option α} {r : α} (he : ∀ k, g (k + 1) = g' k) (h : Evt g' r) : Evt g r :=
  Evt.succ (by rw [show (fun k => g (k + 1)) = g' from funext he]; exact h)
theorem Evt.eq {α : Type} {g g' : Nat → Option α} {r : α} (he : ∀ k, g k = g' k) (h : Evt g' r) : Evt g r := by rw [show g = g' from funext he]; exact h
theorem Evt.pure {α : Type} {r : α} : Evt (fun _ => some r) r := ⟨0, fun _ _ => rfl⟩
theorem Evt.bind {α β : Type} {f : Nat → Option α} {g : Nat → α → Option β} {a : α} {r : β} (h : Evt f a) (h2 : Evt (fun k => g k a) r) : Evt (fun k => (f k).bind (g k)) r := by
  obtain ⟨K, h⟩ := h
  obtain ⟨K2, h2⟩ := h2
  exact ⟨K + K2, fun k hk => by show (f k).bind (g k) = _; rw [h k (by omega)]; exact h2 k (by omega)⟩
theorem Evt.at_ {α : Type} {g : Nat → Option α} {r : α} (h : Evt g r) : ∃ k, g k = some r := by
  obtain ⟨K, h⟩ := h
  exact ⟨K, h K (Nat.le_refl _)⟩
theorem Evt.uniq {α : Type} {g : Nat → Option α} {r r' : α} (h : Evt g r) (h' : Evt g r') : r = r' := by
  obtain ⟨K, h⟩ := h
  obtain ⟨K', h'⟩ := h'
  have := h (K + K') (by omega)
  rw [h' (K + K') (by omega)] at this
  exact (Option.some.inj this).symm

/-! ### The sum -/
theorem xor_range (a b : Int) : 0 ≤ bits .xor .u32 a b ∧ bits .xor .u32 a b < 4294967296 := by
  unfold bits
  rw [IntKind.wrap_u32]
  omega
theorem bitT_range (x : Int) (h0 : 0 ≤ x) (h1 : x < 4294967296) : 0 ≤ bitT x ∧ bitT x < 4294967296 := by
  unfold bitT
  split
  · omega
  · exact xor_range _ _
theorem and1 (x : Int) (h0 : 0 ≤ x) (h1 : x < 4294967296) : bits .and .u32 x 1 = x % 2 := by
  have := bits_mask .u32 32 (by decide) wraps_u32 1 (by decide) x h0 (by omega)
  simpa using this
theorem bit_same (x : Int) (h0 : 0 ≤ x) (h1 : x < 4294967296) : (if Int.tmod x 2 = 1 then bits .xor .u32 ((Int.tdiv x 2) % 4294967296) 3988292384 else (Int.tdiv x 2) % 4294967296) = bitT x := by
  rw [Int.tmod_eq_emod_of_nonneg h0, Int.tdiv_eq_ediv_of_nonneg h0, show x / 2 % 4294967296 = x / 2 by omega]
  unfold bitT
  rw [and1 x h0 h1]
  by_cases h : x % 2 = 1
  · rw [if_pos h, if_neg (by omega)]
  · rw [if_neg h, if_pos (by omega)]
theorem wrap_nat (n : Nat) (h : n ≤ 9223372036854775806) : wrap64 ((n : Int) + 1) = ((n + 1 : Nat) : Int) := by unfold wrap64; omega
theorem bitsT_range : ∀ (n : Nat) (x : Int), 0 ≤ x → x < 4294967296 → 0 ≤ bitsT n x ∧ bitsT n x < 4294967296
  | 0, x, h0, h1 => ⟨h0, h1⟩
  | n + 1, x, h0, h1 => by
    have hr := bitT_range x h0 h1
    exact bitsT_range n (bitT x) hr.1 hr.2
theorem crc_bits (b : List Int) (i : Nat) (hi : i ≤ 9223372036854775806) (R : Int) : ∀ (n : Nat) (j : Nat) (x : Int), j + n = 8 → 0 ≤ x → x < 4294967296 → Evt (fun k => trencherref03_Bytes.l0 k b (bitsT n x) ((i + 1 : Nat) : Int)) R → Evt (fun k => trencherref03_Bytes.l1 k b x i j) R
  | 0, j, x, hj, h0, h1, h => by
    refine Evt.step (fun k => ?_) h
    simp only [trencherref03_Bytes.l1]
    rw [if_neg (by omega), wrap_nat i hi]; rfl
  | n + 1, j, x, hj, h0, h1, h => by
    have hs := bit_same x h0 h1
    have hr := bitT_range x h0 h1
    refine Evt.step (fun k => ?_) (crc_bits b i hi R n (j + 1) (bitT x) (by omega) hr.1 hr.2 h)
    simp only [trencherref03_Bytes.l1]
    rw [if_pos (by omega), wrap_nat j (by omega)]
    by_cases ht : Int.tmod x 2 = 1
    · rw [if_pos ht] at hs
      rw [if_pos ht, hs]
    · rw [if_neg ht] at hs
      rw [if_neg ht, hs]
theorem crc_bytes (b : List Int) (hb : b.length ≤ 9223372036854775806) : ∀ (n i : Nat) (x : Int), i + n = b.length → 0 ≤ x → x < 4294967296 → Evt (fun k => trencherref03_Bytes.l0 k b x i) (bits .xor .u32 ((b.drop i).foldl stepT x) 4294967295)
  | 0, i, x, hi, h0, h1 => by
    refine Evt.step (g' := fun _ => some _) (fun k => ?_) Evt.pure
    simp only [trencherref03_Bytes.l0]
    rw [if_neg (by omega), List.drop_eq_nil_of_le (by omega)]; rfl
  | n + 1, i, x, hi, h0, h1 => by
    have hlt : i < b.length := by omega
    have hx := xor_range x (b[i] % 4294967296)
    have hr := bitsT_range 8 _ hx.1 hx.2
    have ih := crc_bytes b hb n (i + 1) (stepT x b[i]) (by omega) hr.1 hr.2
    have hd : b.drop i = b[i] :: b.drop (i + 1) := List.drop_eq_getElem_cons hlt
    rw [hd, List.foldl_cons]
    refine Evt.step (fun k => ?_) (crc_bits b i (by omega) _ 8 0 (bits .xor .u32 x (b[i] % 4294967296)) rfl hx.1 hx.2 ih)
    simp only [trencherref03_Bytes.l0]
    rw [if_pos (by omega), if_pos (by omega)]
    simp only [rd, Int.toNat_natCast, List.getD_eq_getElem?_getD, List.getElem?_eq_getElem hlt, Option.getD_some]; rfl
theorem xor_comm (a b : Int) : bits .xor .u32 a b = bits .xor .u32 b a := by simp [bits, BitVec.xor_comm]
theorem crc_is (b : List Int) (hb : b.length ≤ 9223372036854775806) : Evt (fun k => trencherref03_Bytes.f k b) (sumOf b) := by
  have h := crc_bytes b hb b.length 0 4294967295 (by omega) (by omega) (by omega)
  rw [xor_comm] at h
  exact h

/-! ### Numbers, written -/
theorem refNumber_is : ∀ (j : Nat) (n : Int), 0 ≤ n → n < 128 ^ (j + 1) → n < 9223372036854775808 → j ≤ 8 → Evt (fun k => trencherref33_Number.f k n) (numB (j + 1) n)
  | 0, n, h0, h1, _, _ => by
    refine Evt.step (g' := fun _ => some _) (fun k => ?_) Evt.pure
    simp only [trencherref33_Number.f, numB]
    rw [if_pos (by omega), if_pos (by omega)]; congr 2; omega
  | j + 1, n, h0, h1, h2, hj => by
    by_cases hn : n < 128
    · refine Evt.step (g' := fun _ => some _) (fun k => ?_) Evt.pure
      simp only [trencherref33_Number.f]
      rw [if_pos hn, show numB (j + 1 + 1) n = [n] by simp [numB, hn]]; congr 2; omega
    · have ih := refNumber_is j (n / 128) (by omega) (by rw [Int.pow_succ] at h1; omega) (by omega) (by omega)
      have hl := numB_len (j + 1) (n / 128)
      have e1 : wrap64 (Int.tmod n 128 + 128) % 256 = n % 128 + 128 := by rw [Int.tmod_eq_emod_of_nonneg h0]; unfold wrap64; omega
      have e2 : wrap64 (Int.tdiv n 128) = n / 128 := by rw [Int.tdiv_eq_ediv_of_nonneg h0]; unfold wrap64; omega
      refine Evt.step (g' := fun k => (trencherref33_Number.f k (n / 128)).bind fun t => if [n % 128 + 128].length + t.length < 140737488355328 then some ([n % 128 + 128] ++ t) else none) (fun k => ?_) (Evt.bind ih ?_)
      · simp only [trencherref33_Number.f]
        rw [if_neg hn, e1, e2]; rfl
      · refine Evt.eq (g' := fun _ => some _) (fun k => ?_) Evt.pure
        rw [if_pos (by simp; omega), show numB (j + 1 + 1) n = (n % 128 + 128) :: numB (j + 1) (n / 128) by simp [numB, hn]]; rfl
theorem refNumber9 (n : Nat) (h : n ≤ 16384) : Evt (fun k => trencherref33_Number.f k n) (numB 9 n) := refNumber_is 8 n (by omega) (by omega) (by omega) (by omega)
end Go.Proofs.Ytanelaajdajjnaa
