/- Plain: what the document's Read for backups answers, whole. Conditions: none. -/
import Derived.Test.YtanelaajdajjnaaM6
namespace Go.Proofs.Ytanelaajdajjnaa
open Go.RowKit Go.Proofs.YtanelaajdajjnaaW.PrintWords
open PBackupReads
set_option linter.unusedVariables false
def up2 (c x : Int) : Int := IntKind.u64.wrap (IntKind.u64.wrap (x * 256) + IntKind.u64.wrap c)
def w8 (bs : List Int) : Int := (bs.take 8).foldr up2 0
def wordsR : Nat → List Int → List Int
  | 0, _ => []
  | n + 1, bs => w8 bs :: wordsR n (bs.drop 8)
def sameS (a b : List Int) : Prop := (strOfNums a).toList = (strOfNums b).toList
instance (a b : List Int) : Decidable (sameS a b) := inferInstanceAs (Decidable (_ = _))
/-- What Write answers, for the document. -/
def wr2 (l : List Int) : List Int := if 8 ≤ l.length ∧ l.length ≤ 16384 ∧ (l.length : Int) % 8 = 0 then fullB l else []
def fin2 (b l : List Int) : List Int × Bool := if sameS (wr2 l) b then (l, true) else ([], false)
/-- From a state on: l so far, bs the bytes ahead. -/
def RR (b : List Int) (many : Nat) : Nat → List Int → List Int → List Int × Bool
  | 0, _, _ => ([], false)
  | k + 1, l, bs => if l.length < many then
      (match rn 4 0 0 bs with
      | none => ([], false)
      | some (z, c) => if z > (many : Int) - l.length then ([], false) else
          if (l ++ List.replicate z.toNat 0).length = many then fin2 b (l ++ List.replicate z.toNat 0) else
          (match rn 4 0 0 (bs.drop c) with
          | none => ([], false)
          | some (n, c2) => if n > (many : Int) - (l ++ List.replicate z.toNat 0).length then ([], false) else
              if 8 * n > ((bs.drop c).drop c2).length then ([], false) else
              if z = 0 ∧ n = 0 then ([], false) else
              RR b many k (l ++ List.replicate z.toNat 0 ++ wordsR n.toNat ((bs.drop c).drop c2)) (((bs.drop c).drop c2).drop (8 * n.toNat))))
    else fin2 b l
theorem up2_word (c x : Int) : IsWord (up2 c x) := wrap_is_word _
theorem w8_word (bs : List Int) : IsWord (w8 bs) := by
  unfold w8
  cases bs.take 8 with
  | nil => exact ⟨by decide, by decide⟩
  | cons c t => exact up2_word _ _
theorem wordsR_len : ∀ (n : Nat) (bs : List Int), (wordsR n bs).length = n
  | 0, _ => rfl
  | n + 1, bs => by simp [wordsR, wordsR_len n]
theorem wordsR_word : ∀ (n : Nat) (bs : List Int), ∀ x ∈ wordsR n bs, IsWord x
  | 0, _, x, h => by simp [wordsR] at h
  | n + 1, bs, x, h => by
    simp only [wordsR, List.mem_cons] at h
    rcases h with rfl | h
    · exact w8_word _
    · exact wordsR_word n _ x h
theorem wordsR_snoc : ∀ (n : Nat) (bs : List Int), wordsR (n + 1) bs = wordsR n bs ++ [w8 (bs.drop (8 * n))]
  | 0, bs => by simp [wordsR]
  | n + 1, bs => by
    rw [show wordsR (n + 1 + 1) bs = w8 bs :: wordsR (n + 1) (bs.drop 8) from rfl, wordsR_snoc n (bs.drop 8), List.drop_drop, show 8 + 8 * n = 8 * (n + 1) by omega]
    rfl
theorem wr_same (l : List Int) (hw : ∀ x ∈ l, IsWord x) : ∃ ok, Evt (fun k => trencherref33_Write.f k l) (wr2 l, ok) := by
  unfold wr2
  by_cases h : 8 ≤ l.length ∧ l.length ≤ 16384 ∧ (l.length : Int) % 8 = 0
  · rw [if_pos h]
    exact ⟨true, refWrite_yes l ⟨h.1, h.2.1, h.2.2, hw⟩⟩
  · rw [if_neg h]
    exact ⟨false, refWrite_no l h⟩
/-- The end of Read: the words are written again. -/
theorem fin_is (b l : List Int) (hw : ∀ x ∈ l, IsWord x) : Evt (fun k => (trencherref33_Write.f k l).bind fun t => if (strOfNums t.1).toList = (strOfNums b).toList then some (l, true) else some (([] : List Int), false)) (fin2 b l) := by
  obtain ⟨ok, h⟩ := wr_same l hw
  refine Evt.bind h (Evt.eq (g' := fun _ => some (fin2 b l)) (fun k => ?_) Evt.pure)
  unfold fin2
  by_cases hs : sameS (wr2 l) b
  · rw [if_pos hs]; exact if_pos hs
  · rw [if_neg hs]; exact if_neg hs
theorem wrap_8 (a n : Nat) (ha : a ≤ 1000000) (hn : n ≤ 268435456) : wrap64 ((a : Int) + wrap64 (8 * (n : Int))) = ((a + 8 * n : Nat) : Int) := by
  have e : wrap64 (8 * (n : Int)) = 8 * (n : Int) := by unfold wrap64; omega
  rw [e]
  unfold wrap64
  omega
theorem far_ (L s n : Nat) (h : 8 * (n : Int) > ((L - s : Nat) : Int)) (hs : s ≤ L) : ((s + 8 * n : Nat) : Int) > (L : Int) := by omega
theorem near_ (L s n : Nat) (h : ¬ 8 * (n : Int) > ((L - s : Nat) : Int)) (hs : s ≤ L) : ¬ ((s + 8 * n : Nat) : Int) > (L : Int) ∧ s + 8 * n ≤ L := by omega
theorem sub_ (L a c c2 : Nat) (ha : a ≤ L) (h1 : c - 0 ≤ L - a) (h2 : c2 - 0 ≤ L - (a + c)) : a + c + c2 ≤ L := by omega
theorem r_l2 (b : List Int) (hl : b.length ≤ 1000000) (many : Nat) (a : Nat) (ha : a + 8 ≤ b.length) (l : List Int) (hll : l.length ≤ 16384) (n i : Nat) (hi : i ≤ 16384) (R : List Int × Bool) : ∀ (j : Nat) (x : Int), j ≤ 8 →
    Evt (fun k => trencherref33_Read.l1 k b many ((a + 8 : Nat) : Int) (l ++ [((b.drop a).take j).foldr up2 x]) n ((i + 1 : Nat) : Int)) R → Evt (fun k => trencherref33_Read.l2 k b many a l n i x ((j : Int) - 1)) R
  | 0, x, hj, h => by
    simp only [List.take_zero, List.foldr_nil] at h
    refine Evt.step (fun k => ?_) h
    simp only [trencherref33_Read.l2]
    rw [if_neg (by omega), if_pos (by omega), wrap_nat i (by omega), show wrap64 ((a : Int) + 8) = ((a + 8 : Nat) : Int) by unfold wrap64; omega]
  | j + 1, x, hj, h => by
    have hlt : j < (b.drop a).length := by rw [List.length_drop]; omega
    rw [List.take_succ_eq_append_getElem hlt, List.foldr_append, List.foldr_cons, List.foldr_nil] at h
    have ih := r_l2 b hl many a ha l hll n i hi R j (up2 ((b.drop a)[j]) x) (by omega) h
    have hrd := rd_drop b a j (by omega)
    refine Evt.step (fun k => ?_) ih
    simp only [trencherref33_Read.l2]
    rw [if_pos (by omega), show ((j + 1 : Nat) : Int) - 1 = (j : Int) by omega, wrap_add a j (by omega), if_pos (by omega), if_pos (by omega), hrd, show wrap64 ((j : Int) - 1) = (j : Int) - 1 by unfold wrap64; omega]
    rfl
theorem r_l1 (b : List Int) (hl : b.length ≤ 1000000) (many : Nat) (n a0 : Nat) (ha : a0 + 8 * n ≤ b.length) (l0 : List Int) (hn : n ≤ 16384) (hll : l0.length + n ≤ 16384) (R : List Int × Bool)
    (h : Evt (fun k => trencherref33_Read.l0 k b many ((a0 + 8 * n : Nat) : Int) (l0 ++ wordsR n (b.drop a0))) R) : ∀ (m i : Nat), i + m = n → Evt (fun k => trencherref33_Read.l1 k b many ((a0 + 8 * i : Nat) : Int) (l0 ++ wordsR i (b.drop a0)) n i) R
  | 0, i, hi => by
    obtain rfl : i = n := by omega
    refine Evt.step (fun k => ?_) h
    simp only [trencherref33_Read.l1]
    rw [if_neg (by omega)]
  | m + 1, i, hi => by
    have ih := r_l1 b hl many n a0 ha l0 hn hll R h m (i + 1) (by omega)
    have hw := wordsR_len i (b.drop a0)
    rw [wordsR_snoc, ← List.append_assoc, List.drop_drop] at ih
    have h2 := r_l2 b hl many (a0 + 8 * i) (by omega) (l0 ++ wordsR i (b.drop a0)) (by rw [List.length_append]; omega) n i (by omega) R 8 0 (by omega) ih
    refine Evt.step (fun k => ?_) h2
    simp only [trencherref33_Read.l1]
    rw [if_pos (by omega)]; rfl
set_option maxHeartbeats 2000000 in
theorem r_l0 (b : List Int) (hb : ∀ c ∈ b, IsByte c) (hl : b.length ≤ 1000000) (many : Nat) (hm : many ≤ 16384) : ∀ (k : Nat) (a : Nat) (l : List Int), a ≤ b.length → l.length ≤ many → many - l.length < k → (∀ x ∈ l, IsWord x) → Evt (fun k => trencherref33_Read.l0 k b many a l) (RR b many k l (b.drop a))
  | 0, a, l, ha, hll, hk, hw => absurd hk (by omega)
  | k + 1, a, l, ha, hll, hk, hw => by
    simp only [RR]
    by_cases hlt : l.length < many
    · rw [if_pos hlt]
      have hn1 := refnum_is b a hb ha hl
      have hw64 : wrap64 ((many : Int) - (l.length : Int)) = (many : Int) - l.length := by unfold wrap64; omega
      cases hz : rn 4 0 0 (b.drop a) with
      | none =>
        rw [hz] at hn1
        refine Evt.step (fun k => ?_) (Evt.bind hn1 (g := fun k t => if t.1 < 0 then (trencherref33_Read.j1 k b many l t.1 t.2 true) else (trencherref33_Read.j1 k b many l t.1 t.2 (decide (t.1 > (wrap64 ((many : Int) - (l.length : Int))))))) ?_)
        · simp only [trencherref33_Read.l0]
          rw [if_pos (by omega)]
        · refine Evt.step (g' := fun _ => some _) (fun k => ?_) Evt.pure
          simp only [rnR, trencherref33_Read.j1]
          rw [if_pos (by omega)]; simp
      | some p =>
        obtain ⟨z, c⟩ := p
        rw [hz] at hn1
        replace hn1 : Evt (fun k => trencherref33_number.f k b a) (z, ((a + c : Nat) : Int)) := hn1
        have hbd : ∀ x ∈ b.drop a, IsByte x := fun x hx => hb x (List.mem_of_mem_drop hx)
        obtain ⟨z0, z1, z2, z3⟩ := rn_spec 4 0 0 (b.drop a) z c rfl (by omega) (by decide) hbd hz
        rw [List.length_drop] at z3
        refine Evt.step (fun k => ?_) (Evt.bind hn1 (g := fun k t => if t.1 < 0 then (trencherref33_Read.j1 k b many l t.1 t.2 true) else (trencherref33_Read.j1 k b many l t.1 t.2 (decide (t.1 > (wrap64 ((many : Int) - (l.length : Int))))))) ?_)
        · simp only [trencherref33_Read.l0]
          rw [if_pos (by omega)]
        have hdec : decide (z > wrap64 ((many : Int) - (l.length : Int))) = decide (z > (many : Int) - l.length) := by rw [hw64]
        by_cases hz2 : z > (many : Int) - l.length
        · dsimp only
          rw [if_pos hz2]
          refine Evt.step (g' := fun _ => some _) (fun k => ?_) Evt.pure
          rw [if_neg (by omega), hdec, decide_eq_true hz2]
          simp only [trencherref33_Read.j1]
          simp
        · dsimp only
          rw [if_neg hz2]
          obtain ⟨z, rfl⟩ := Int.eq_ofNat_of_zero_le z0
          simp only [Int.toNat_natCast]
          obtain ⟨y, hy⟩ : ∃ y, y = l ++ List.replicate z 0 := ⟨_, rfl⟩
          have hyl : y.length = l.length + z := by rw [hy]; simp
          have hyw : ∀ x ∈ y, IsWord x := by
            intro x hx
            rw [hy] at hx
            simp only [List.mem_append, List.mem_replicate] at hx
            rcases hx with hx | ⟨_, rfl⟩
            · exact hw x hx
            · exact ⟨by decide, by decide⟩
          rw [← hy]
          have hw64y : wrap64 ((many : Int) - (y.length : Int)) = (many : Int) - y.length := by unfold wrap64; omega
          have hn2 := refnum_is b (a + c) hb (by omega) hl
          refine Evt.step (g' := fun k => if (y.length : Int) = (many : Int) then (trencherref33_Write.f k y).bind fun t => (if (strOfNums t.1).toList = (strOfNums b).toList then some (y, true) else some (([] : List Int), false)) else (trencherref33_number.f k b ((a + c : Nat) : Int)).bind fun t => (if t.1 < 0 then trencherref33_Read.j2 k b many y z t.1 t.2 true else if t.1 > (wrap64 ((many : Int) - (y.length : Int))) then trencherref33_Read.j2 k b many y z t.1 t.2 true else trencherref33_Read.j2 k b many y z t.1 t.2 (decide ((wrap64 (t.2 + (wrap64 (8 * t.1)))) > (b.length : Int))))) (fun k => ?_) ?_
          · rw [if_neg (by omega), hdec, decide_eq_false hz2]
            simp only [trencherref33_Read.j1]
            rw [if_neg (by decide), if_pos (by omega), if_pos (by simp; omega), Option.bind_some, Int.toNat_natCast, ← hy]
          by_cases hym : y.length = many
          · rw [if_pos hym]
            refine Evt.eq (fun k => ?_) (fin_is b y hyw)
            rw [if_pos (by omega)]
          · rw [if_neg hym, List.drop_drop]
            refine Evt.eq (fun k => if_neg (by omega)) ?_
            cases hz3 : rn 4 0 0 (b.drop (a + c)) with
            | none =>
              rw [hz3] at hn2
              replace hn2 : Evt (fun k => trencherref33_number.f k b ((a + c : Nat) : Int)) (-1, ((a + c : Nat) : Int)) := hn2
              refine Evt.bind hn2 ?_
              refine Evt.step (g' := fun _ => some _) (fun k => ?_) Evt.pure
              dsimp only
              rw [if_pos (by omega)]
              simp only [trencherref33_Read.j2]; simp
            | some p =>
              obtain ⟨n, c2⟩ := p
              rw [hz3] at hn2
              replace hn2 : Evt (fun k => trencherref33_number.f k b ((a + c : Nat) : Int)) (n, ((a + c + c2 : Nat) : Int)) := hn2
              have hbd2 : ∀ x ∈ b.drop (a + c), IsByte x := fun x hx => hb x (List.mem_of_mem_drop hx)
              obtain ⟨n0, n1, n2, n3⟩ := rn_spec 4 0 0 (b.drop (a + c)) n c2 rfl (by omega) (by decide) hbd2 hz3
              rw [List.length_drop] at n3
              dsimp only
              refine Evt.bind hn2 ?_
              obtain ⟨n, rfl⟩ := Int.eq_ofNat_of_zero_le n0
              simp only [Int.toNat_natCast, List.drop_drop]
              by_cases hn4 : (n : Int) > (many : Int) - y.length
              · rw [if_pos hn4]
                refine Evt.step (g' := fun _ => some _) (fun k => ?_) Evt.pure
                rw [if_neg (by omega), hw64y, if_pos hn4]
                simp only [trencherref33_Read.j2]; simp
              · rw [if_neg hn4]
                have hto : wrap64 (((a + c + c2 : Nat) : Int) + wrap64 (8 * (n : Int))) = ((a + c + c2 + 8 * n : Nat) : Int) := wrap_8 _ _ (by omega) (by omega)
                have hld : (b.drop (a + c + c2)).length = b.length - (a + c + c2) := by simp
                have hs3 : a + c + c2 ≤ b.length := sub_ _ _ _ _ ha z3 n3
                by_cases h8 : 8 * (n : Int) > ((b.drop (a + c + c2)).length : Int)
                · rw [if_pos h8]
                  rw [hld] at h8
                  have hgt := far_ b.length (a + c + c2) n h8 hs3
                  refine Evt.step (g' := fun _ => some _) (fun k => ?_) Evt.pure
                  rw [if_neg (by omega), hw64y, if_neg hn4, hto, decide_eq_true hgt]
                  simp only [trencherref33_Read.j2]; simp
                · rw [if_neg h8]
                  rw [hld] at h8
                  obtain ⟨hgt, hle⟩ := near_ b.length (a + c + c2) n h8 hs3
                  clear hld h8 n3 z3
                  refine Evt.step (g' := fun k => if (z : Int) = 0 then trencherref33_Read.j3 k b many y n ((a + c + c2 : Nat) : Int) ((n : Int) == 0) else trencherref33_Read.j3 k b many y n ((a + c + c2 : Nat) : Int) false) (fun k => ?_) ?_
                  · rw [if_neg (by omega), hw64y, if_neg hn4, hto, decide_eq_false hgt]
                    simp only [trencherref33_Read.j2]
                    rw [if_neg (by decide)]
                  by_cases hzn : (z : Int) = 0 ∧ (n : Int) = 0
                  · rw [if_pos hzn]
                    refine Evt.step (g' := fun _ => some _) (fun k => ?_) Evt.pure
                    rw [if_pos hzn.1, show ((n : Int) == 0) = true by simpa using hzn.2]
                    simp only [trencherref33_Read.j3]; simp
                  · rw [if_neg hzn]
                    have ih := r_l0 b hb hl many hm k (a + c + c2 + 8 * n) (y ++ wordsR n (b.drop (a + c + c2))) hle (by rw [List.length_append, wordsR_len]; omega) (by rw [List.length_append, wordsR_len]; omega) (by
                      intro x hx
                      simp only [List.mem_append] at hx
                      rcases hx with hx | hx
                      · exact hyw x hx
                      · exact wordsR_word _ _ x hx)
                    have h1 := r_l1 b hl many n (a + c + c2) hle y (by omega) (by omega) _ ih n 0 (by omega)
                    refine Evt.eq (g' := fun k => trencherref33_Read.j3 k b many y n ((a + c + c2 : Nat) : Int) false) (fun k => ?_) ?_
                    · split
                      · rw [show ((n : Int) == 0) = false by simp; omega]
                      · rfl
                    · refine Evt.step (fun k => ?_) h1
                      simp only [trencherref33_Read.j3]
                      rw [if_neg (by decide)]
                      simp [wordsR]
    · rw [if_neg hlt]
      refine Evt.step (fun k => ?_) (fin_is b l hw)
      simp only [trencherref33_Read.l0]
      rw [if_neg (by omega)]
end Go.Proofs.Ytanelaajdajjnaa
