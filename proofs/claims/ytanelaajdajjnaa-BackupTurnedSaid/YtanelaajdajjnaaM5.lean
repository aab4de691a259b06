/- Plain: the document's Write for backups is the program's. Conditions: none. -/
import Derived.Test.YtanelaajdajjnaaM4
namespace Go.Proofs.Ytanelaajdajjnaa
open Go.RowKit Go.Proofs.YtanelaajdajjnaaW.PrintWords
open PBackupReads
set_option linter.unusedVariables false
theorem sumOf_range (b : List Int) : 0 ≤ sumOf b ∧ sumOf b < 4294967296 := xor_range _ _
theorem w_l5 : ∀ (n j : Nat) (out : List Int) (s : Int), j + n = 4 → 0 ≤ s → s < 4294967296 → out.length + n ≤ 2000000 → Evt (fun k => trencherref33_Write.l5 k out s j) (out ++ leB n s, true)
  | 0, j, out, s, hj, h0, h1, hl => by
    refine Evt.step (g' := fun _ => some _) (fun k => ?_) Evt.pure
    simp only [trencherref33_Write.l5, leB, List.append_nil]
    rw [if_neg (by omega)]
  | n + 1, j, out, s, hj, h0, h1, hl => by
    have ih := w_l5 n (j + 1) (out ++ [s % 256]) (s / 256) (by omega) (by omega) (by omega) (by simp; omega)
    rw [List.append_assoc] at ih
    refine Evt.step (fun k => ?_) ih
    simp only [trencherref33_Write.l5]
    rw [if_pos (by omega), if_pos (by omega), Int.tmod_eq_emod_of_nonneg h0, Int.tdiv_eq_ediv_of_nonneg h0, show s % 256 % 256 = s % 256 by omega, show s / 256 % 4294967296 = s / 256 by omega, wrap_nat j (by omega)]
theorem w_l5z (out : List Int) (s : Int) (h0 : 0 ≤ s) (h1 : s < 4294967296) (hl : out.length ≤ 1999996) : Evt (fun k => trencherref33_Write.l5 k out s 0) (out ++ leB 4 s, true) := w_l5 4 0 out s rfl h0 h1 (by omega)
theorem w_j7 (out : List Int) (hl : out.length ≤ 1999996) : Evt (fun k => trencherref33_Write.j7 k out) (out ++ leB 4 (sumOf out), true) := by
  have hr := sumOf_range out
  refine Evt.step (g' := fun k => (trencherref03_Bytes.f k out).bind fun t => trencherref33_Write.l5 k out t 0) (fun k => ?_) (Evt.bind (crc_is out (by omega)) (w_l5z out _ hr.1 hr.2 hl))
  simp only [trencherref33_Write.j7]
theorem w_l4 (l : List Int) (a n i : Nat) (hi : i ≤ 16384) (R : List Int × Bool) : ∀ (m j : Nat) (out : List Int) (x : Int), j + m = 8 → IsWord x → out.length + m ≤ 2000000 → Evt (fun k => trencherref33_Write.l3 k l (out ++ leB m x) a n ((i + 1 : Nat) : Int)) R → Evt (fun k => trencherref33_Write.l4 k l out a n i x j) R
  | 0, j, out, x, hj, hx, hl, h => by
    rw [show out ++ leB 0 x = out by simp [leB]] at h
    refine Evt.step (fun k => ?_) h
    simp only [trencherref33_Write.l4]
    rw [if_neg (by omega), wrap_nat i (by omega)]
  | m + 1, j, out, x, hj, hx, hl, h => by
    obtain ⟨h0, h1⟩ := hx
    have ih := w_l4 l a n i hi R m (j + 1) (out ++ [x % 256]) (x / 256) (by omega) ⟨by omega, by omega⟩ (by simp; omega) (by rw [List.append_assoc]; exact h)
    refine Evt.step (fun k => ?_) ih
    simp only [trencherref33_Write.l4]
    rw [if_pos (by omega), if_pos (by omega), Int.tmod_eq_emod_of_nonneg h0, Int.tdiv_eq_ediv_of_nonneg h0, show x % 256 % 256 = x % 256 by omega, wrap_word (x / 256) ⟨by omega, by omega⟩, wrap_nat j (by omega)]
theorem wrap_add (a b : Nat) (h : a + b ≤ 9223372036854775806) : wrap64 ((a : Int) + (b : Int)) = ((a + b : Nat) : Int) := by unfold wrap64; omega
theorem w_l3 (l : List Int) (a n : Nat) (ha : a + n ≤ l.length) (hl : l.length ≤ 16384) (hw : ∀ x ∈ l, IsWord x) (R : List Int × Bool) : ∀ (m i : Nat) (out : List Int), i + m = n → out.length + 8 * m ≤ 1999990 →
    Evt (fun k => trencherref33_Write.l0 k l (out ++ ((l.drop (a + i)).take m).flatMap (leB 8)) ((a + n : Nat) : Int)) R → Evt (fun k => trencherref33_Write.l3 k l out a n i) R
  | 0, i, out, hi, ho, h => by
    simp only [List.take_zero, List.flatMap_nil, List.append_nil] at h
    refine Evt.step (fun k => ?_) h
    simp only [trencherref33_Write.l3]
    rw [if_neg (by omega), wrap_add a n (by omega)]
  | m + 1, i, out, hi, ho, h => by
    have hlt : a + i < l.length := by omega
    have hd : l.drop (a + i) = l[a + i] :: l.drop (a + i + 1) := List.drop_eq_getElem_cons hlt
    rw [hd, List.take_succ_cons, List.flatMap_cons, ← List.append_assoc] at h
    have ih := w_l3 l a n ha hl hw R m (i + 1) (out ++ leB 8 l[a + i]) (by omega) (by simp [leB_len]; omega) h
    refine Evt.step (fun k => ?_) (w_l4 l a n i (by omega) R 8 0 out l[a + i] rfl (hw _ (by simp)) (by omega) ih)
    simp only [trencherref33_Write.l3]
    rw [if_pos (by omega), wrap_add a i (by omega), if_pos (by omega), if_pos (by omega)]
    simp only [rd, Int.toNat_natCast, List.getD_eq_getElem?_getD, List.getElem?_eq_getElem hlt, Option.getD_some]; rfl
theorem w_j4 (l : List Int) (a n : Nat) (ha : a + n ≤ l.length) (hl : l.length ≤ 16384) (hw : ∀ x ∈ l, IsWord x) (R : List Int × Bool) (out : List Int) (ho : out.length + 8 * n ≤ 1999980)
    (h : Evt (fun k => trencherref33_Write.l0 k l (out ++ numB 9 n ++ ((l.drop a).take n).flatMap (leB 8)) ((a + n : Nat) : Int)) R) : Evt (fun k => trencherref33_Write.j4 k l out a n) R := by
  have h1 := numB_len 9 (n : Int)
  have h3 := w_l3 l a n ha hl hw R n 0 (out ++ numB 9 n) (by omega) (by simp; omega) h
  refine Evt.step (g' := fun k => (trencherref33_Number.f k n).bind fun t => if out.length + t.length < 140737488355328 then trencherref33_Write.l3 k l (out ++ t) a n 0 else none) (fun k => ?_) (Evt.bind (refNumber9 n (by omega)) ?_)
  · simp only [trencherref33_Write.j4]
  · refine Evt.eq (fun k => ?_) h3
    rw [if_pos (by omega)]; rfl
theorem rd_drop (l : List Int) (a i : Nat) (h : a + i < l.length) : rd l ((a + i : Nat) : Int) = (l.drop a)[i]'(by simp; omega) := by
  unfold rd
  rw [Int.toNat_natCast, List.getD_eq_getElem?_getD, List.getElem?_eq_getElem h, Option.getD_some, List.getElem_drop]
theorem w_l2 (l : List Int) (a : Nat) (ha : a ≤ l.length) (hl : l.length ≤ 16384) (out : List Int) (R : List Int × Bool) (h : Evt (fun k => trencherref33_Write.j4 k l out a (runL false (l.drop a))) R) : ∀ (m i : Nat), i + m = (l.drop a).length → i ≤ runL false (l.drop a) → Evt (fun k => trencherref33_Write.l2 k l out a i) R
  | 0, i, hi, hr => by
    have := runL_le false (l.drop a)
    rw [List.length_drop] at hi this
    have e : runL false (l.drop a) = i := by omega
    rw [e] at h
    refine Evt.step (fun k => ?_) h
    simp only [trencherref33_Write.l2]
    rw [wrap_add a i (by omega), if_neg (by omega)]
  | m + 1, i, hi, hr => by
    have hi' := hi
    rw [List.length_drop] at hi'
    have hat := runL_at false (l.drop a) i (by omega) hr
    have hrd := rd_drop l a i (by omega)
    by_cases h0 : (l.drop a)[i]'(by omega) = 0
    · rw [h0] at hat
      simp only [show ((0 : Int) == 0) = true from rfl, show (true == false) = false from rfl, Bool.false_eq_true, if_false] at hat
      rw [hat] at h
      refine Evt.step (fun k => ?_) h
      simp only [trencherref33_Write.l2]
      rw [wrap_add a i (by omega), if_pos (by omega), if_pos (by omega), hrd, if_pos h0]
    · have hne : ((l.drop a)[i]'(by omega) == 0) = false := by simpa using h0
      rw [hne] at hat
      simp only [show (false == false) = true from rfl, if_true] at hat
      refine Evt.step (fun k => ?_) (w_l2 l a ha hl out R h m (i + 1) (by omega) hat)
      simp only [trencherref33_Write.l2]
      rw [wrap_add a i (by omega), if_pos (by omega), if_pos (by omega), hrd, if_neg h0, wrap_nat i (by omega)]
theorem w_l1 (l : List Int) (a : Nat) (ha : a ≤ l.length) (hl : l.length ≤ 16384) (out : List Int) (R : List Int × Bool) (h : Evt (fun k => trencherref33_Write.j2 k l out a (runL true (l.drop a))) R) : ∀ (m i : Nat), i + m = (l.drop a).length → i ≤ runL true (l.drop a) → Evt (fun k => trencherref33_Write.l1 k l out a i) R
  | 0, i, hi, hr => by
    have := runL_le true (l.drop a)
    rw [List.length_drop] at hi this
    have e : runL true (l.drop a) = i := by omega
    rw [e] at h
    refine Evt.step (fun k => ?_) h
    simp only [trencherref33_Write.l1]
    rw [wrap_add a i (by omega), if_neg (by omega)]
  | m + 1, i, hi, hr => by
    have hi' := hi
    rw [List.length_drop] at hi'
    have hat := runL_at true (l.drop a) i (by omega) hr
    have hrd := rd_drop l a i (by omega)
    by_cases h0 : (l.drop a)[i]'(by omega) = 0
    · rw [h0] at hat
      simp only [show ((0 : Int) == 0) = true from rfl, show (true == true) = true from rfl, if_true] at hat
      refine Evt.step (fun k => ?_) (w_l1 l a ha hl out R h m (i + 1) (by omega) hat)
      simp only [trencherref33_Write.l1]
      rw [wrap_add a i (by omega), if_pos (by omega), if_pos (by omega), hrd, if_pos h0, wrap_nat i (by omega)]
    · have hne : ((l.drop a)[i]'(by omega) == 0) = false := by simpa using h0
      rw [hne] at hat
      simp only [show (false == true) = false from rfl, Bool.false_eq_true, if_false] at hat
      rw [hat] at h
      refine Evt.step (fun k => ?_) h
      simp only [trencherref33_Write.l1]
      rw [wrap_add a i (by omega), if_pos (by omega), if_pos (by omega), hrd, if_neg h0]
/-- From a place on: the runs, then the sum. -/
theorem w_l0 (l : List Int) (hl : l.length ≤ 16384) (hw : ∀ x ∈ l, IsWord x) : ∀ (kr a : Nat) (out T : List Int), a ≤ l.length → l.length - a < kr → out.length + 26 * (l.length - a) ≤ 1000000 → T = out ++ (if l.drop a = [] then [] else runsB kr (l.drop a)) →
    Evt (fun k => trencherref33_Write.l0 k l out a) (T ++ leB 4 (sumOf T), true)
  | 0, a, out, T, ha, hk, ho, hT => absurd hk (by omega)
  | kr + 1, a, out, T, ha, hk, ho, hT => by
    by_cases he : a = l.length
    · have hd : l.drop a = [] := List.drop_eq_nil_of_le (by omega)
      rw [if_pos hd, List.append_nil] at hT
      subst hT
      refine Evt.step (fun k => ?_) (w_j7 T (by omega))
      simp only [trencherref33_Write.l0]
      rw [if_neg (by omega)]
    · have hd : l.drop a ≠ [] := fun e => by have := congrArg List.length e; simp at this; omega
      rw [if_neg hd] at hT
      simp only [runsB] at hT
      obtain ⟨z, hz⟩ : ∃ z, z = runL true (l.drop a) := ⟨_, rfl⟩
      have hzl : z ≤ l.length - a := by rw [hz]; have := runL_le true (l.drop a); rw [List.length_drop] at this; exact this
      have hnx := runL_next (l.drop a)
      rw [← hz] at hT hnx
      have hz9 := numB_len 9 (z : Int)
      have hdd : (l.drop a).drop z = l.drop (a + z) := by rw [List.drop_drop]
      rw [hdd] at hT hnx
      refine Evt.step (g' := fun k => trencherref33_Write.l1 k l out a 0) (fun k => ?_) ?_
      · simp only [trencherref33_Write.l0]; rw [if_pos (by omega)]
      refine w_l1 l a ha hl out _ ?_ (l.drop a).length 0 (by omega) (by omega)
      rw [← hz]
      refine Evt.step (g' := fun k => (trencherref33_Number.f k z).bind fun t => if out.length + t.length < 140737488355328 then (some (out ++ t)).bind fun y => (if (wrap64 ((a : Int) + (z : Int))) = (l.length : Int) then trencherref33_Write.j7 k y else trencherref33_Write.l2 k l y (wrap64 ((a : Int) + (z : Int))) 0) else none) (fun k => ?_) (Evt.bind (refNumber9 z (by omega)) ?_)
      · simp only [trencherref33_Write.j2]
      by_cases h3 : l.drop (a + z) = []
      · rw [if_pos h3, List.append_nil] at hT
        have hz2 : a + z = l.length := by have := congrArg List.length h3; simp at this; omega
        refine Evt.eq (fun k => ?_) (w_j7 T (by rw [hT]; simp; omega))
        rw [if_pos (by omega), Option.bind_some, wrap_add a z (by omega), if_pos (by omega), ← hT]
      · rw [if_neg h3] at hT
        have hn0 := hnx h3
        have hz2 : a + z < l.length := by
          rcases Nat.lt_or_ge (a + z) l.length with h | h
          · exact h
          · exact absurd (List.drop_eq_nil_of_le h) h3
        obtain ⟨n, hn⟩ : ∃ n, n = runL false (l.drop (a + z)) := ⟨_, rfl⟩
        have hnl : n ≤ l.length - (a + z) := by rw [hn]; have := runL_le false (l.drop (a + z)); rw [List.length_drop] at this; exact this
        have hn9 := numB_len 9 (n : Int)
        rw [← hn] at hT hn0
        have hdd2 : (l.drop (a + z)).drop n = l.drop (a + z + n) := by rw [List.drop_drop]
        rw [hdd2] at hT
        have hfl := flat_len ((l.drop (a + z)).take n)
        rw [List.length_take, List.length_drop, Nat.min_eq_left hnl] at hfl
        have ih := w_l0 l hl hw kr (a + z + n) (out ++ numB 9 z ++ numB 9 n ++ ((l.drop (a + z)).take n).flatMap (leB 8)) T (by omega) (by omega) (by rw [List.length_append, List.length_append, List.length_append]; omega) (by rw [hT]; simp only [List.append_assoc])
        have hj4 := w_j4 l (a + z) n (by omega) hl hw _ (out ++ numB 9 z) (by rw [List.length_append]; omega) ih
        rw [hn] at hj4
        have hl2 := w_l2 l (a + z) (by omega) hl (out ++ numB 9 z) _ hj4 (l.drop (a + z)).length 0 (by omega) (by omega)
        refine Evt.eq (fun k => ?_) hl2
        rw [if_pos (by omega), Option.bind_some, wrap_add a z (by omega), if_neg (by omega)]; rfl
theorem refMay_is (n : Int) (h : 0 ≤ n) : trencherref33_May.f n = some (decide (8 ≤ n ∧ n ≤ 16384 ∧ n % 8 = 0)) := by
  simp only [trencherref33_May.f]
  rw [Int.tmod_eq_emod_of_nonneg h]
  split
  · split
    · rename_i h1 h2
      congr 1
      by_cases h3 : n % 8 = 0 <;> simp [h3] <;> omega
    · simp; omega
  · simp; omega
theorem refMay_neg (n : Int) (h : n < 0) : trencherref33_May.f n = some false := by
  simp only [trencherref33_May.f]
  rw [if_neg (by omega)]
theorem refWrite_yes (l : List Int) (h : ValidW l) : Evt (fun k => trencherref33_Write.f k l) (fullB l, true) := by
  obtain ⟨h1, h2, h3, h4⟩ := h
  have hn9 := numB_len 9 (l.length : Int)
  have hne : l ≠ [] := fun e => by rw [e] at h1; simp at h1
  have h0 := w_l0 l h2 h4 (l.length + 1) 0 ([84, 82, 78, 67] ++ numB 9 l.length) (headB l) (by omega) (by omega) (by simp; omega) (by rw [List.drop_zero, if_neg hne]; unfold headB; rfl)
  have hs : IntKind.u64.wrap (sumOf (headB l)) = sumOf (headB l) := by have := sumOf_range (headB l); exact wrap_word _ ⟨by omega, by omega⟩
  have hf : fullB l = headB l ++ leB 4 (sumOf (headB l)) := by unfold fullB; rw [hs]
  rw [hf]
  refine Evt.eq (g' := fun k => (trencherref33_Number.f k (l.length : Int)).bind fun t => if [84, 82, 78, 67].length + t.length < 140737488355328 then trencherref33_Write.l0 k l ([84, 82, 78, 67] ++ t) 0 else none) (fun k => ?_) (Evt.bind (refNumber9 l.length h2) ?_)
  · simp only [trencherref33_Write.f]
    rw [refMay_is _ (by omega), Option.bind_some, if_pos (by simp; omega)]; rfl
  · refine Evt.eq (fun k => ?_) h0
    rw [if_pos (by simp; omega)]; rfl
theorem refWrite_no (l : List Int) (h : ¬ (8 ≤ l.length ∧ l.length ≤ 16384 ∧ (l.length : Int) % 8 = 0)) : Evt (fun k => trencherref33_Write.f k l) ([], false) := by
  refine Evt.eq (g' := fun _ => some _) (fun k => ?_) Evt.pure
  simp only [trencherref33_Write.f]
  rw [refMay_is _ (by omega), Option.bind_some, if_neg (by simp; omega)]
end Go.Proofs.Ytanelaajdajjnaa
