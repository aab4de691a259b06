/- What backup.Read answers, for any bytes; and that what is written is read. Conditions: none. -/
import Derived.Test.YtanelaajdajjnaaB9
namespace Go.Proofs.Ytanelaajdajjnaa
open Go.RowKit Go.Proofs.YtanelaajdajjnaaW.PrintWords Go.Proofs.YtanelaajdajjnaaW.PrintLast Go.Proofs.YtanelaajdajjnaaW.PrintMore
set_option linter.unusedVariables false
set_option linter.unusedSimpArgs false
open PBackupReads
/-- The words of a backup's bytes. -/
def readO (b : List Int) : Option (List Int) :=
  if 4 ≤ b.length ∧ letB b = true then
    (match numO 9 0 0 (b.drop 4) with
    | none => none
    | some (m, rest) => if mayB m = true then
        (match wordsO (rest.length + 1) m.toNat [] rest with
        | none => none
        | some (out, _) => if fullB out = b then some out else none) else none)
  else none
theorem mayB_iff (n : Int) : mayB n = true ↔ 8 ≤ n ∧ n ≤ 16384 ∧ n % 8 = 0 := by simp [mayB]
theorem read_any (A : Option Addr) (c : Nat) (b : List Int) (hb : ∀ x ∈ b, IsByte x) (w : World) (hr : Kd.C (Kd.int .u8) w A b.length b) (hc : b.length ≤ c) (hn : b.length ≤ 140737488351232) :
    Calls Try.prog 10 #[.slice A b.length c] w (fun e w' => match readO b with | some out => ReadYes w out e w' | none => ReadNo w e w') := by
  have hbb : ∀ x ∈ b.drop 4, IsByte x := fun x hx => hb x (List.mem_of_mem_drop hx)
  by_cases h4 : 4 ≤ b.length
  · cases hl : letB b with
    | false =>
      have e : readO b = none := by unfold readO; rw [if_neg (by simp [hl])]
      rw [e]
      exact read_letters A c b w hr hc hn h4 hbb hl
    | true =>
      cases hN : numO 9 0 0 (b.drop 4) with
      | none =>
        have e : readO b = none := by unfold readO; rw [if_pos ⟨h4, hl⟩, hN]
        rw [e]
        exact read_number A c b w hr hc hn h4 hbb hl hN
      | some p =>
        obtain ⟨m, rest⟩ := p
        obtain ⟨m0, m1, m2, m3⟩ := numO_spec 9 0 0 (b.drop 4) m rest (by omega) (by decide) (by decide) hbb hN
        cases hM : mayB m with
        | false =>
          have e : readO b = none := by unfold readO; rw [if_pos ⟨h4, hl⟩, hN]; dsimp only; rw [if_neg (by simp [hM])]
          rw [e]
          exact read_may A c b w hr hc hn h4 hbb hl m rest hN m0 hM
        | true =>
          have hm := (mayB_iff m).1 hM
          obtain ⟨m, rfl⟩ := Int.eq_ofNat_of_zero_le m0
          have hm16 : m ≤ 16384 := by omega
          cases hW : wordsO (rest.length + 1) m [] rest with
          | none =>
            have e : readO b = none := by unfold readO; rw [if_pos ⟨h4, hl⟩, hN]; dsimp only; rw [if_pos hM, Int.toNat_natCast, hW]
            rw [e]
            exact read_words A c b w hr hc hn h4 hbb hl m rest hN hm16 hM m3 hW
          | some q =>
            obtain ⟨out, r⟩ := q
            have ho := wordsO_len _ _ _ _ _ _ (by simp) hW
            have hMO : mayB out.length = true := by rw [ho]; exact hM
            have hfl : (fullB out).length ≤ 9223372036854775806 := by have := fullB_len out (by omega); omega
            by_cases hE : fullB out = b
            · have e : readO b = some out := by unfold readO; rw [if_pos ⟨h4, hl⟩, hN]; dsimp only; rw [if_pos hM, Int.toNat_natCast, hW]; dsimp only; rw [if_pos hE]
              rw [e]
              exact read_ok A c b w hr hc hn h4 hbb hl m rest hN hm16 hM m3 out r hW hMO (by omega) hfl (by simp [hE])
            · have e : readO b = none := by unfold readO; rw [if_pos ⟨h4, hl⟩, hN]; dsimp only; rw [if_pos hM, Int.toNat_natCast, hW]; dsimp only; rw [if_neg hE]
              rw [e]
              exact read_other A c b w hr hc hn h4 hbb hl m rest hN hm16 hM m3 out r hW hMO (by omega) hfl (by simp [hE])
  · have e : readO b = none := by unfold readO; rw [if_neg (by simp [h4])]
    rw [e]
    exact read_short A c b w hr hc hn h4
theorem takeW_words : ∀ (m : Nat) (out b o2 b2 : List Int), takeW m out b = some (o2, b2) → (∀ x ∈ out, IsWord x) → ∀ x ∈ o2, IsWord x
  | 0, out, b, o2, b2, h, ho => by simp [takeW] at h; obtain ⟨rfl, rfl⟩ := h; exact ho
  | m + 1, out, b, o2, b2, h, ho => by
    simp only [takeW] at h
    split at h
    · refine takeW_words m _ _ _ _ h (fun x hx => ?_)
      simp only [List.mem_append, List.mem_singleton] at hx
      rcases hx with hx | rfl
      · exact ho x hx
      · exact wordV_word _
    · simp at h
theorem zeros_words (out : List Int) (n : Nat) (ho : ∀ x ∈ out, IsWord x) : ∀ x ∈ out ++ List.replicate n 0, IsWord x := by
  intro x hx
  simp only [List.mem_append, List.mem_replicate] at hx
  rcases hx with hx | ⟨_, rfl⟩
  · exact ho x hx
  · exact ⟨by omega, by omega⟩
theorem wordsO_words : ∀ (k many : Nat) (out b o r : List Int), wordsO k many out b = some (o, r) → (∀ x ∈ out, IsWord x) → ∀ x ∈ o, IsWord x
  | 0, _, _, _, _, _, h, _ => by simp [wordsO] at h
  | k + 1, many, out, b, o, r, h, ho => by
    simp only [wordsO] at h
    split at h
    · split at h
      · simp at h
      · split at h
        · split at h
          · injection h with h
            injection h with h3 h4
            rw [← h3]; exact zeros_words _ _ ho
          · split at h
            · simp at h
            · split at h
              · split at h
                · simp at h
                · rename_i ht
                  exact wordsO_words k many _ _ o r h (takeW_words _ _ _ _ _ ht (zeros_words _ _ ho))
              · simp at h
        · simp at h
    · injection h with h
      injection h with h3 h4
      rw [← h3]; exact ho
theorem read_right (b out : List Int) (hb : ∀ x ∈ b, IsByte x) (h : readO b = some out) : ValidW out ∧ fullB out = b := by
  unfold readO at h
  split at h
  · split at h
    · simp at h
    · rename_i m rest hN
      split at h
      · rename_i hM
        split at h
        · simp at h
        · rename_i o2 r2 hW
          split at h
          · rename_i hE
            injection h with h
            subst h
            have hm := (mayB_iff m).1 hM
            have hl := wordsO_len _ _ _ _ _ _ (by simp) hW
            have hw := wordsO_words _ _ _ _ _ _ hW (by simp)
            exact ⟨⟨by omega, by omega, by omega, hw⟩, hE⟩
          · simp at h
      · simp at h
  · simp at h
theorem letB_full (l : List Int) : letB (fullB l) = true := by
  unfold letB
  rw [fullB_take]
  rw [ByteArray.toList_eq, strOfNums_data]
  rfl
theorem read_full (l : List Int) (h : ValidW l) : readO (fullB l) = some l := by
  obtain ⟨h1, h2, h3, h4⟩ := h
  have hlen : 4 ≤ (fullB l).length := by rw [fullB_form]; simp
  have hr := words_read ((runsB (l.length + 1) l ++ leB 4 (IntKind.u64.wrap (sumOf (headB l)))).length + 1) (l.length + 1) l.length l [] (leB 4 (IntKind.u64.wrap (sumOf (headB l)))) (by intro e; rw [e] at h1; simp at h1) (by rw [List.length_append]; omega) (by omega) (by omega) (by simp) h4
  unfold readO
  rw [if_pos ⟨hlen, letB_full l⟩, fullB_four, num_read l.length h2]
  dsimp only
  rw [if_pos ((mayB_iff _).2 (by omega)), Int.toNat_natCast, hr]
  dsimp only
  rw [List.nil_append, if_pos rfl]
end Go.Proofs.Ytanelaajdajjnaa
