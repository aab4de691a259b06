/- The plain text of a backup: its numbers, its runs, its sum. Conditions: none. -/
import Derived.Test.YtanelaajdajjnaaM1
namespace Go.Proofs.Ytanelaajdajjnaa
open Go.RowKit
set_option linter.unusedVariables false

/-- A bit of a sum, a byte of it, all bytes. -/
def bitT (x : Int) : Int := if bits .and .u32 x 1 = 0 then x / 2 else bits .xor .u32 (x / 2) 3988292384
def bitsT : Nat → Int → Int
  | 0, x => x
  | n + 1, x => bitsT n (bitT x)
def stepT (x c : Int) : Int := bitsT 8 (bits .xor .u32 x (c % 4294967296))
def crcAt (l : List Int) : Int := l.foldl stepT 4294967295
theorem crcAt_snoc (l : List Int) (c : Int) : crcAt (l ++ [c]) = stepT (crcAt l) c := by simp [crcAt]
/-- Bytes of a number, seven bits each. -/
def numB : Nat → Int → List Int
  | 0, _ => []
  | k + 1, n => if n < 128 then [n] else (n % 128 + 128) :: numB k (n / 128)
/-- Bytes of a number, the lowest one first. -/
def leB : Nat → Int → List Int
  | 0, _ => []
  | k + 1, x => x % 256 :: leB k (x / 256)
/-- How many at the begin are 0 (true), or aren't. -/
def runL (z : Bool) (l : List Int) : Nat := (l.takeWhile fun x => (x == 0) == z).length
theorem runL_le (z : Bool) (l : List Int) : runL z l ≤ l.length := by
  unfold runL
  induction l with
  | nil => simp
  | cons x t ih =>
    simp only [List.takeWhile]
    split <;> simp; omega
theorem runL_at (z : Bool) : ∀ (l : List Int) (i : Nat) (h : i < l.length), i ≤ runL z l → if ((l[i] == 0) == z) = true then i + 1 ≤ runL z l else runL z l = i
  | [], i, h, _ => by simp at h
  | x :: t, 0, h, _ => by
    simp only [List.getElem_cons_zero]
    by_cases hq : ((x == 0) == z) = true
    · rw [if_pos hq]; simp [runL, List.takeWhile, hq]
    · rw [if_neg hq]; simp only [Bool.not_eq_true] at hq; simp [runL, List.takeWhile, hq]
  | x :: t, i + 1, h, hi => by
    simp only [List.getElem_cons_succ]
    have hx : ((x == 0) == z) = true := by
      cases hq : ((x == 0) == z) with
      | true => rfl
      | false => exfalso; simp [runL, List.takeWhile, hq] at hi
    have hr : runL z (x :: t) = runL z t + 1 := by simp [runL, List.takeWhile, hx]
    have := runL_at z t i (by simpa using h) (by omega)
    rw [hr]
    split <;> simp_all
/-- The runs of a backup. -/
def runsB : Nat → List Int → List Int
  | 0, _ => []
  | k + 1, l =>
    numB 9 (runL true l) ++ (if l.drop (runL true l) = [] then [] else
      numB 9 (runL false (l.drop (runL true l))) ++ (((l.drop (runL true l)).take (runL false (l.drop (runL true l)))).flatMap (leB 8) ++
        (if (l.drop (runL true l)).drop (runL false (l.drop (runL true l))) = [] then [] else runsB k ((l.drop (runL true l)).drop (runL false (l.drop (runL true l)))))))
def headB (l : List Int) : List Int := [84, 82, 78, 67] ++ numB 9 l.length ++ runsB (l.length + 1) l
theorem numB_len : ∀ (k : Nat) (n : Int), (numB k n).length ≤ k
  | 0, n => by simp [numB]
  | k + 1, n => by
    simp only [numB]
    split
    · simp
    · have := numB_len k (n / 128); simp; omega
theorem leB_len : ∀ (k : Nat) (n : Int), (leB k n).length = k
  | 0, n => rfl
  | k + 1, n => by simp [leB, leB_len k]
theorem flat_len (l : List Int) : (l.flatMap (leB 8)).length = 8 * l.length := by
  induction l with
  | nil => rfl
  | cons x t ih => simp [List.flatMap_cons, leB_len, ih]; omega
theorem runL_zero {x : Int} {t : List Int} (hx : x = 0) : runL true (x :: t) = runL true t + 1 := by
  have : (x == 0) = true := by simp [hx]
  simp [runL, List.takeWhile, this]
theorem runL_other {x : Int} {t : List Int} (hx : x ≠ 0) : runL true (x :: t) = 0 := by
  have : (x == 0) = false := by simp [hx]
  simp [runL, List.takeWhile, this]
theorem runL_pos (l : List Int) (h : l ≠ []) (hz : runL true l = 0) : 0 < runL false l := by
  cases l with
  | nil => exact absurd rfl h
  | cons x t =>
    by_cases hx : x = 0
    · rw [runL_zero hx] at hz; omega
    · have : (x == 0) = false := by simp [hx]
      simp [runL, List.takeWhile, this]
/-- Behind zeros stands another one. -/
theorem runL_next (l : List Int) (h : l.drop (runL true l) ≠ []) : 0 < runL false (l.drop (runL true l)) := by
  induction l with
  | nil => simp at h
  | cons x t ih =>
    by_cases hx : x = 0
    · have e := runL_zero (t := t) hx
      rw [e, List.drop_succ_cons] at h ⊢
      exact ih h
    · have e := runL_other (t := t) hx
      rw [e] at h ⊢
      exact runL_pos _ h e
theorem flat_take (l : List Int) (j : Nat) (h : j < l.length) : (l.take (j + 1)).flatMap (leB 8) = (l.take j).flatMap (leB 8) ++ leB 8 (l.getD j 0) := by
  rw [List.take_succ_eq_append_getElem h, List.flatMap_append, List.getD_eq_getElem?_getD, List.getElem?_eq_getElem h]
  simp
end Go.Proofs.Ytanelaajdajjnaa
