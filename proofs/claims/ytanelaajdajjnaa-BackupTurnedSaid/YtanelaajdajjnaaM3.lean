/- Plain: what is written is read. Conditions: none. -/
import Derived.Test.YtanelaajdajjnaaM2
namespace Go.Proofs.Ytanelaajdajjnaa
open Go.RowKit
set_option linter.unusedVariables false

def IsWord (x : Int) : Prop := 0 ≤ x ∧ x < 18446744073709551616
theorem wrap_word (x : Int) (h : IsWord x) : IntKind.u64.wrap x = x := wraps_u64 x h.1 (by have := h.2; omega)
theorem wrap_is_word (x : Int) : IsWord (IntKind.u64.wrap x) := by
  have : IntKind.u64.wrap x = x % 18446744073709551616 := by simp [IntKind.wrap, IntKind.bits, IntKind.signed]
  rw [this]; constructor <;> omega
theorem upV_is (x c : Int) (h0 : 0 ≤ x) (h1 : x < 72057594037927936) (hc : IsByte c) : upV x c = x * 256 + c := by
  have h2 := hc.1; have h3 := hc.2
  have e1 : IntKind.u64.wrap (x * 256) = x * 256 := wrap_word _ ⟨by omega, by omega⟩
  have e2 : IntKind.u64.wrap c = c := wrap_word _ ⟨by omega, by omega⟩
  unfold upV
  rw [e1, e2]
  exact bits_join .u64 64 (by decide) wraps_u64 8 (x * 256) c (by omega) (by omega) (by omega) (by omega) (by omega) (by omega)
theorem upV_word (x c : Int) : IsWord (upV x c) := by
  unfold upV bits
  exact wrap_is_word _
theorem wordV_word (l : List Int) : IsWord (wordV l) := by
  unfold wordV foldV
  generalize backs l l.length = p
  have : ∀ (p : List (Nat × Int)) (x : Int), IsWord x → IsWord (p.foldl (fun x q => upV x q.2) x) := by
    intro p
    induction p with
    | nil => exact fun x h => h
    | cons q t ih => exact fun x _ => ih _ (upV_word x q.2)
  exact this p 0 ⟨by omega, by omega⟩
theorem leB_byte : ∀ (k : Nat) (x : Int), ∀ c ∈ leB k x, IsByte c
  | 0, x, c, h => by simp [leB] at h
  | k + 1, x, c, h => by
    simp only [leB, List.mem_cons] at h
    rcases h with rfl | h
    · exact ⟨by omega, by omega⟩
    · exact leB_byte k _ c h
theorem up_step (q : Int) (h0 : 0 ≤ q) (h1 : q / 256 < 72057594037927936) : upV (q / 256) (q % 256) = q := by
  rw [upV_is _ _ (by omega) h1 ⟨by omega, by omega⟩]; omega
theorem wordV_leB (x : Int) (h : IsWord x) : wordV (leB 8 x) = x := by
  obtain ⟨h0, h1⟩ := h
  simp only [leB, wordV, List.length_cons, List.length_nil, backs, foldV]
  simp only [List.range, List.range.loop, List.map_cons, List.map_nil, List.foldl_cons, List.foldl_nil]
  simp only [Nat.zero_add, Nat.reduceAdd, Nat.reduceSub, List.getElem?_cons_zero, List.getElem?_cons_succ, Option.getD_some]
  have h7 : upV 0 (x / 256 / 256 / 256 / 256 / 256 / 256 / 256 % 256) = x / 256 / 256 / 256 / 256 / 256 / 256 / 256 := by
    have := up_step (x / 256 / 256 / 256 / 256 / 256 / 256 / 256) (by omega) (by omega)
    rwa [show x / 256 / 256 / 256 / 256 / 256 / 256 / 256 / 256 = 0 by omega] at this
  rw [h7, up_step (x / 256 / 256 / 256 / 256 / 256 / 256) (by omega) (by omega), up_step (x / 256 / 256 / 256 / 256 / 256) (by omega) (by omega), up_step (x / 256 / 256 / 256 / 256) (by omega) (by omega), up_step (x / 256 / 256 / 256) (by omega) (by omega), up_step (x / 256 / 256) (by omega) (by omega), up_step (x / 256) (by omega) (by omega), up_step x (by omega) (by omega)]
theorem numB_byte : ∀ (k : Nat) (n : Int), 0 ≤ n → ∀ c ∈ numB k n, IsByte c
  | 0, n, _, c, h => by simp [numB] at h
  | k + 1, n, h0, c, h => by
    simp only [numB] at h
    split at h
    · simp at h; subst h; exact ⟨by omega, by omega⟩
    · simp only [List.mem_cons] at h
      rcases h with rfl | h
      · exact ⟨by omega, by omega⟩
      · exact numB_byte k _ (by omega) c h
/-- A number's bytes are read as it. -/
theorem numO_numB : ∀ (m i k : Nat) (n acc : Int) (r : List Int), 0 < k → k ≤ m → 0 ≤ n → n < 128 ^ k → (i = 0 ∨ 0 < n) → numO m i acc (numB k n ++ r) = some (acc + n * 2 ^ (7 * i), r)
  | _, _, 0, _, _, _, h, _, _, _, _ => absurd h (by omega)
  | 0, _, k + 1, _, _, _, _, h, _, _, _ => absurd h (by omega)
  | m + 1, i, k + 1, n, acc, r, _, hm, h0, h1, hi => by
    by_cases hn : n < 128
    · have e : numB (k + 1) n = [n] := by simp [numB, hn]
      have hm : n % 128 = n := by omega
      rw [e]
      simp only [List.cons_append, List.nil_append, numO, hm]
      rw [if_pos hn, if_pos (by omega)]
    · have e : numB (k + 1) n = (n % 128 + 128) :: numB k (n / 128) := by simp [numB, hn]
      have hk : 0 < k := by
        rcases Nat.eq_zero_or_pos k with rfl | h
        · simp at h1; omega
        · exact h
      have ih := numO_numB m (i + 1) k (n / 128) (acc + n % 128 * 2 ^ (7 * i)) r hk (by omega) (by omega) (by rw [Int.pow_succ] at h1; omega) (.inr (by omega))
      rw [e]
      simp only [List.cons_append, numO]
      rw [if_neg (by omega), show (n % 128 + 128) % 128 = n % 128 by omega, ih]
      have e5 : (2 : Int) ^ (7 * (i + 1)) = 128 * 2 ^ (7 * i) := by rw [Nat.mul_add, Int.pow_add]; omega
      rw [e5]
      have e6 : n / 128 * (128 * 2 ^ (7 * i)) = (n / 128 * 128) * 2 ^ (7 * i) := by rw [Int.mul_assoc]
      have e7 : n % 128 * 2 ^ (7 * i) + (n / 128 * 128) * 2 ^ (7 * i) = n * 2 ^ (7 * i) := by
        rw [← Int.add_mul]; congr 1; omega
      rw [e6, Int.add_assoc, e7]
theorem num_read (n : Nat) (h : n ≤ 16384) (r : List Int) : numO 9 0 0 (numB 9 n ++ r) = some ((n : Int), r) := by
  have := numO_numB 9 0 9 n 0 r (by omega) (by omega) (by omega) (by omega) (.inl rfl)
  simpa using this
theorem takeW_read : ∀ (xs out r : List Int), (∀ x ∈ xs, IsWord x) → takeW xs.length out (xs.flatMap (leB 8) ++ r) = some (out ++ xs, r)
  | [], out, r, _ => by simp [takeW]
  | x :: t, out, r, h => by
    have hl := leB_len 8 x
    have e1 : ((x :: t).flatMap (leB 8) ++ r).take 8 = leB 8 x := by
      rw [List.flatMap_cons, List.append_assoc, List.take_append_of_le_length (by omega), List.take_of_length_le (by omega)]
    have e2 : ((x :: t).flatMap (leB 8) ++ r).drop 8 = t.flatMap (leB 8) ++ r := by
      rw [List.flatMap_cons, List.append_assoc, List.drop_append_of_le_length (by omega), List.drop_of_length_le (by omega), List.nil_append]
    simp only [List.length_cons, takeW]
    rw [if_pos (by rw [List.flatMap_cons]; simp; omega), e1, e2, wordV_leB x (h x (by simp)), takeW_read t _ r (fun y hy => h y (by simp [hy]))]
    simp
/-- The zeros at the begin. -/
theorem take_zeros (l : List Int) : l.take (runL true l) = List.replicate (runL true l) 0 := by
  induction l with
  | nil => simp [runL]
  | cons x t ih =>
    by_cases hx : x = 0
    · rw [runL_zero hx, List.take_succ_cons, ih, hx]; rfl
    · rw [runL_other hx]; rfl
theorem zeros_drop (l : List Int) : List.replicate (runL true l) 0 ++ l.drop (runL true l) = l := by rw [← take_zeros, List.take_append_drop]
theorem numB_pos (k : Nat) (n : Int) : 0 < (numB (k + 1) n).length := by
  simp only [numB]
  split <;> simp
theorem numB_pos9 (n : Int) : 0 < (numB 9 n).length := numB_pos 8 n
set_option maxRecDepth 20000 in
/-- What is written of words is read as these. -/
theorem words_read : ∀ (k kr many : Nat) (l out r : List Int), l ≠ [] → (runsB kr l).length < k → l.length < kr → many ≤ 16384 → out.length + l.length = many → (∀ x ∈ l, IsWord x) → wordsO k many out (runsB kr l ++ r) = some (out ++ l, r)
  | 0, _, _, _, _, _, _, h, _, _, _, _ => absurd h (by omega)
  | _, 0, _, _, _, _, _, _, h, _, _, _ => absurd h (by omega)
  | k + 1, kr + 1, many, l, out, r, hne, hk, hkr, hm, hl, hw => by
    have hpos : 0 < l.length := List.length_pos_iff.2 hne
    obtain ⟨z, hz⟩ : ∃ z, z = runL true l := ⟨_, rfl⟩
    have hzl : z ≤ l.length := by rw [hz]; exact runL_le _ _
    have hzd : List.replicate z 0 ++ l.drop z = l := by rw [hz]; exact zeros_drop l
    have hnx := runL_next l
    rw [← hz] at hnx
    simp only [runsB] at hk
    simp only [wordsO, runsB]
    rw [← hz] at hk
    rw [if_pos (by omega), ← hz, List.append_assoc, num_read z (by omega)]
    obtain ⟨l3, hl3⟩ : ∃ l3, l3 = l.drop z := ⟨_, rfl⟩
    rw [← hl3] at hnx hzd hk ⊢
    have hp1 := numB_pos9 (z : Int)
    rw [List.length_append] at hk
    have hlen3 : l3.length = l.length - z := by rw [hl3]; simp
    simp only [Int.toNat_natCast]
    rw [if_pos (by omega)]
    by_cases h3 : l3 = []
    · rw [if_pos (by rw [h3] at hlen3; simp at hlen3; simp; omega), if_pos h3]
      rw [h3] at hzd
      simp only [List.append_nil] at hzd
      simp [hzd]
    · have hn0 := hnx h3
      rw [if_neg (by have := List.length_pos_iff.2 h3; simp; omega), if_neg h3]
      obtain ⟨n, hn⟩ : ∃ n, n = runL false l3 := ⟨_, rfl⟩
      have hnl : n ≤ l3.length := by rw [hn]; exact runL_le _ _
      rw [if_neg h3, ← hn] at hk
      rw [← hn] at hn0 ⊢
      have hp2 := numB_pos9 (n : Int)
      rw [List.length_append, List.length_append] at hk
      rw [List.append_assoc, num_read n (by omega)]
      simp only [Int.toNat_natCast]
      rw [if_pos (by simp; omega), List.append_assoc]
      have hw3 : ∀ x ∈ l3, IsWord x := fun x hx => hw x (by rw [← hzd]; simp [hx])
      have ht := takeW_read (l3.take n) (out ++ List.replicate z 0) ((if l3.drop n = [] then [] else runsB kr (l3.drop n)) ++ r) (fun x hx => hw3 x (List.mem_of_mem_take hx))
      rw [List.length_take, Nat.min_eq_left hnl] at ht
      rw [ht]
      have hre : out ++ List.replicate z 0 ++ l3.take n ++ l3.drop n = out ++ l := by
        rw [List.append_assoc, List.take_append_drop, List.append_assoc, hzd]
      obtain ⟨l4, hl4⟩ : ∃ l4, l4 = l3.drop n := ⟨_, rfl⟩
      have hlen4 : l4.length = l3.length - n := by rw [hl4]; simp
      have hw4 : ∀ x ∈ l4, IsWord x := fun x hx => hw3 x (by rw [hl4] at hx; exact List.mem_of_mem_drop hx)
      rw [← hl4] at hre ⊢
      by_cases h4 : l4 = []
      · obtain ⟨k, rfl⟩ : ∃ j, k = j + 1 := ⟨k - 1, by omega⟩
        rw [if_pos h4]
        rw [h4] at hlen4 hre
        simp only [wordsO, List.nil_append]
        simp only [List.append_nil] at hre
        rw [if_neg (by simp at hlen4; simp; omega), hre]
      · rw [if_neg h4]
        rw [← hl4, if_neg h4] at hk
        have := words_read k kr many l4 (out ++ List.replicate z 0 ++ l3.take n) r h4 (by omega) (by omega) hm (by simp; omega) hw4
        dsimp only
        rw [this, hre]

def ValidW (l : List Int) : Prop := 8 ≤ l.length ∧ l.length ≤ 16384 ∧ (l.length : Int) % 8 = 0 ∧ ∀ x ∈ l, IsWord x
def sumOf (b : List Int) : Int := bits .xor .u32 4294967295 (crcAt b)
def fullB (l : List Int) : List Int := headB l ++ leB 4 (IntKind.u64.wrap (sumOf (headB l)))
theorem headB_form (l t : List Int) : headB l ++ t = [84, 82, 78, 67] ++ (numB 9 l.length ++ (runsB (l.length + 1) l ++ t)) := by unfold headB; simp only [List.append_assoc]
theorem fullB_form (l : List Int) : fullB l = [84, 82, 78, 67] ++ (numB 9 l.length ++ (runsB (l.length + 1) l ++ leB 4 (IntKind.u64.wrap (sumOf (headB l))))) := headB_form l _
theorem fullB_four (l : List Int) : (fullB l).drop 4 = numB 9 l.length ++ (runsB (l.length + 1) l ++ leB 4 (IntKind.u64.wrap (sumOf (headB l)))) := by
  rw [fullB_form]; exact List.drop_left' rfl
theorem fullB_take (l : List Int) : (fullB l).take 4 = [84, 82, 78, 67] := by
  rw [fullB_form]; exact List.take_left' rfl
theorem runsB_byte : ∀ (k : Nat) (l : List Int), ∀ c ∈ runsB k l, IsByte c
  | 0, l, c, h => by simp [runsB] at h
  | k + 1, l, c, h => by
    simp only [runsB, List.mem_append] at h
    rcases h with h | h
    · exact numB_byte _ _ (by omega) c h
    · split at h
      · simp at h
      · simp only [List.mem_append] at h
        rcases h with h | h | h
        · exact numB_byte _ _ (by omega) c h
        · obtain ⟨x, _, hx⟩ := List.mem_flatMap.1 h
          exact leB_byte _ _ c hx
        · split at h
          · simp at h
          · exact runsB_byte k _ c h
theorem fullB_byte (l : List Int) : ∀ c ∈ fullB l, IsByte c := by
  intro c h
  rw [fullB_form] at h
  simp only [List.mem_append] at h
  rcases h with h | h | h | h
  · simp at h
    rcases h with rfl | rfl | rfl | rfl <;> exact ⟨by omega, by omega⟩
  · exact numB_byte _ _ (by omega) c h
  · exact runsB_byte _ _ c h
  · exact leB_byte _ _ c h
theorem runsB_len : ∀ (k : Nat) (l : List Int), (runsB k l).length ≤ 18 * k + 8 * l.length
  | 0, l => by simp [runsB]
  | k + 1, l => by
    obtain ⟨z, hz⟩ : ∃ z, z = runL true l := ⟨_, rfl⟩
    obtain ⟨l3, hl3⟩ : ∃ l3, l3 = l.drop z := ⟨_, rfl⟩
    obtain ⟨n, hn⟩ : ∃ n, n = runL false l3 := ⟨_, rfl⟩
    have ih := runsB_len k (l3.drop n)
    have h1 := numB_len 9 (z : Int)
    have h2 := numB_len 9 (n : Int)
    have h3 : l3.length ≤ l.length := by rw [hl3]; simp
    have h4 := flat_len (l3.take n)
    simp only [runsB]
    rw [← hz, ← hl3, ← hn]
    rw [List.length_append]
    split
    · simp; omega
    · rw [List.length_append, List.length_append]
      rw [List.length_take] at h4
      rw [List.length_drop] at ih
      split
      · simp only [List.length_nil]; omega
      · omega
theorem fullB_len (l : List Int) (h : l.length ≤ 16384) : (fullB l).length ≤ 1000000 := by
  rw [fullB_form]
  have h1 := numB_len 9 (l.length : Int)
  have h2 := runsB_len (l.length + 1) l
  have h3 := leB_len 4 (IntKind.u64.wrap (sumOf (headB l)))
  simp
  omega
end Go.Proofs.Ytanelaajdajjnaa
