/- Plain: the document's Read for backups is the program's. Conditions: none. -/
import Derived.Test.YtanelaajdajjnaaM7
import Derived.Test.YtanelaajdajjnaaB10
namespace Go.Proofs.Ytanelaajdajjnaa
open Go.RowKit Go.Proofs.YtanelaajdajjnaaW.PrintWords
open PBackupReads
set_option linter.unusedVariables false
theorem up2_is (c x : Int) (h0 : 0 ≤ x) (h1 : x < 72057594037927936) (hc : IsByte c) : up2 c x = x * 256 + c := by
  have h2 := hc.1; have h3 := hc.2
  unfold up2
  rw [wrap_word (x * 256) ⟨by omega, by omega⟩, wrap_word c ⟨by omega, by omega⟩, wrap_word _ ⟨by omega, by omega⟩]
theorem up2_step (q : Int) (h0 : 0 ≤ q) (h1 : q / 256 < 72057594037927936) : up2 (q % 256) (q / 256) = q := by
  rw [up2_is _ _ (by omega) h1 ⟨by omega, by omega⟩]; omega
theorem w8_read (x : Int) (h : IsWord x) (r : List Int) : w8 (leB 8 x ++ r) = x := by
  obtain ⟨h0, h1⟩ := h
  unfold w8
  rw [List.take_append_of_le_length (by rw [leB_len]; omega), List.take_of_length_le (by rw [leB_len]; omega)]
  simp only [leB, List.foldr_cons, List.foldr_nil]
  have h7 : up2 (x / 256 / 256 / 256 / 256 / 256 / 256 / 256 % 256) 0 = x / 256 / 256 / 256 / 256 / 256 / 256 / 256 := by
    have := up2_step (x / 256 / 256 / 256 / 256 / 256 / 256 / 256) (by omega) (by omega)
    rwa [show x / 256 / 256 / 256 / 256 / 256 / 256 / 256 / 256 = 0 by omega] at this
  rw [h7, up2_step (x / 256 / 256 / 256 / 256 / 256 / 256) (by omega) (by omega), up2_step (x / 256 / 256 / 256 / 256 / 256) (by omega) (by omega), up2_step (x / 256 / 256 / 256 / 256) (by omega) (by omega), up2_step (x / 256 / 256 / 256) (by omega) (by omega), up2_step (x / 256 / 256) (by omega) (by omega), up2_step (x / 256) (by omega) (by omega), up2_step x (by omega) (by omega)]
theorem wordsR_read : ∀ (xs r : List Int), (∀ x ∈ xs, IsWord x) → wordsR xs.length (xs.flatMap (leB 8) ++ r) = xs
  | [], r, _ => rfl
  | x :: t, r, h => by
    rw [List.flatMap_cons, List.append_assoc]
    simp only [List.length_cons, wordsR]
    rw [w8_read x (h x (by simp)), List.drop_append_of_le_length (by rw [leB_len]; omega), List.drop_of_length_le (by rw [leB_len]; omega), List.nil_append, wordsR_read t r (fun y hy => h y (by simp [hy]))]
theorem sameS_iff (a b : List Int) (ha : ∀ x ∈ a, IsByte x) (hb : ∀ x ∈ b, IsByte x) : sameS a b ↔ a = b := by
  unfold sameS
  rw [ByteArray.toList_eq, ByteArray.toList_eq, strOfNums_data, strOfNums_data]
  constructor
  · intro h
    have hl : a.length = b.length := by simpa using congrArg List.length h
    refine List.ext_getElem hl (fun i h1 h2 => ?_)
    have e := congrArg (fun l => l[i]?) h
    simp only [List.getElem?_map, List.getElem?_eq_getElem h1, List.getElem?_eq_getElem h2, Option.map_some, Option.some.injEq] at e
    have b1 := ha a[i] (by simp)
    have b2 := hb b[i] (by simp)
    obtain ⟨b10, b11⟩ := b1
    obtain ⟨b20, b21⟩ := b2
    have e2 := congrArg UInt8.toNat e
    rw [UInt8.toNat_ofNat', UInt8.toNat_ofNat', Nat.mod_eq_of_lt (by omega), Nat.mod_eq_of_lt (by omega)] at e2
    omega
  · intro h; rw [h]
theorem wr2_byte (l : List Int) : ∀ c ∈ wr2 l, IsByte c := by
  intro c h
  unfold wr2 at h
  split at h
  · exact fullB_byte l c h
  · simp at h
theorem fin2_sound (b l : List Int) (hb : ∀ x ∈ b, IsByte x) (hne : b ≠ []) (hw : ∀ x ∈ l, IsWord x) : fin2 b l = ([], false) ∨ (fin2 b l = (l, true) ∧ ValidW l ∧ fullB l = b) := by
  unfold fin2
  by_cases hs : sameS (wr2 l) b
  · rw [if_pos hs]
    rw [sameS_iff _ _ (wr2_byte l) hb] at hs
    unfold wr2 at hs
    split at hs
    · rename_i h
      exact .inr ⟨rfl, ⟨h.1, h.2.1, h.2.2, hw⟩, hs⟩
    · exact absurd hs.symm hne
  · rw [if_neg hs]; exact .inl rfl
theorem RR_sound (b : List Int) (hb : ∀ x ∈ b, IsByte x) (hne : b ≠ []) (many : Nat) : ∀ (k : Nat) (l bs : List Int), (∀ x ∈ l, IsWord x) → RR b many k l bs = ([], false) ∨ ∃ y, RR b many k l bs = (y, true) ∧ ValidW y ∧ fullB y = b
  | 0, l, bs, hw => .inl rfl
  | k + 1, l, bs, hw => by
    have hz : ∀ z : Nat, ∀ x ∈ l ++ List.replicate z 0, IsWord x := fun z => zeros_words l z hw
    simp only [RR]
    split
    · split
      · exact .inl rfl
      · split
        · exact .inl rfl
        · split
          · rcases fin2_sound b _ hb hne (hz _) with h | h
            · exact .inl h
            · exact .inr ⟨_, h⟩
          · split
            · exact .inl rfl
            · split
              · exact .inl rfl
              · split
                · exact .inl rfl
                · split
                  · exact .inl rfl
                  · refine RR_sound b hb hne many k _ _ (fun x hx => ?_)
                    rcases List.mem_append.1 hx with hx | hx
                    · exact hz _ x hx
                    · exact wordsR_word _ _ x hx
    · rcases fin2_sound b _ hb hne hw with h | h
      · exact .inl h
      · exact .inr ⟨_, h⟩
theorem fin2_full (l : List Int) (h : ValidW l) : fin2 (fullB l) l = (l, true) := by
  have e : wr2 l = fullB l := if_pos ⟨h.1, h.2.1, h.2.2.1⟩
  unfold fin2
  rw [e]
  exact if_pos ((sameS_iff _ _ (fullB_byte l) (fullB_byte l)).2 rfl)
set_option maxRecDepth 20000 in
theorem RR_full (W : List Int) (hW : ValidW W) (r : List Int) : ∀ (k kr : Nat) (l2 l : List Int), l2 ≠ [] → l ++ l2 = W → W.length - l.length < k → l2.length < kr → RR (fullB W) W.length k l (runsB kr l2 ++ r) = (W, true)
  | 0, _, _, _, _, _, h, _ => absurd h (by omega)
  | _, 0, _, _, _, _, _, h => absurd h (by omega)
  | k + 1, kr + 1, l2, l, hne, hl, hk, hkr => by
    have hpos : 0 < l2.length := List.length_pos_iff.2 hne
    have hlen : W.length = l.length + l2.length := by rw [← hl]; simp
    have hm := hW.2.1
    obtain ⟨z, hz⟩ : ∃ z, z = runL true l2 := ⟨_, rfl⟩
    have hzl : z ≤ l2.length := by rw [hz]; exact runL_le _ _
    have hzd : List.replicate z 0 ++ l2.drop z = l2 := by rw [hz]; exact zeros_drop l2
    have hnx := runL_next l2
    rw [← hz] at hnx
    obtain ⟨l3, hl3⟩ : ∃ l3, l3 = l2.drop z := ⟨_, rfl⟩
    rw [← hl3] at hnx hzd
    have hrb : runsB (kr + 1) l2 ++ r = numB 9 z ++ ((if l3 = [] then [] else numB 9 (runL false l3) ++ ((l3.take (runL false l3)).flatMap (leB 8) ++ (if l3.drop (runL false l3) = [] then [] else runsB kr (l3.drop (runL false l3))))) ++ r) := by
      simp only [runsB]
      rw [← hz, ← hl3, List.append_assoc]
    rw [hrb]
    simp only [RR]
    rw [if_pos (by omega), rn_read z (by omega)]
    have hlen3 : l3.length = l2.length - z := by rw [hl3]; simp
    dsimp only
    rw [if_neg (by omega)]
    simp only [Int.toNat_natCast]
    by_cases h3 : l3 = []
    · rw [h3, List.append_nil] at hzd
      rw [hzd, hl, if_pos rfl]
      exact fin2_full W hW
    · have hn0 := hnx h3
      have h3p := List.length_pos_iff.2 h3
      rw [if_neg (by simp; omega), if_neg h3, List.drop_left' rfl]
      obtain ⟨n, hn⟩ : ∃ n, n = runL false l3 := ⟨_, rfl⟩
      have hnl : n ≤ l3.length := by rw [hn]; exact runL_le _ _
      rw [← hn] at hn0 ⊢
      rw [List.append_assoc, rn_read n (by omega)]
      dsimp only
      have hw3 : ∀ x ∈ l3, IsWord x := fun x hx => hW.2.2.2 x (by rw [← hl, ← hzd]; simp [hx])
      have hfl := flat_len (l3.take n)
      rw [List.length_take, Nat.min_eq_left hnl] at hfl
      rw [if_neg (by simp; omega), List.drop_left' rfl, if_neg (by rw [List.append_assoc, List.length_append]; omega), if_neg (by omega)]
      have hwr := wordsR_read (l3.take n) ((if l3.drop n = [] then [] else runsB kr (l3.drop n)) ++ r) (fun x hx => hw3 x (List.mem_of_mem_take hx))
      rw [List.length_take, Nat.min_eq_left hnl] at hwr
      simp only [Int.toNat_natCast]
      rw [List.append_assoc ((l3.take n).flatMap (leB 8)), hwr, List.drop_left' hfl]
      obtain ⟨l4, hl4⟩ : ∃ l4, l4 = l3.drop n := ⟨_, rfl⟩
      have hlen4 : l4.length = l3.length - n := by rw [hl4]; simp
      have hre : l ++ List.replicate z 0 ++ l3.take n ++ l4 = W := by
        rw [hl4, List.append_assoc, List.take_append_drop, List.append_assoc, hzd, hl]
      rw [← hl4]
      by_cases h4 : l4 = []
      · obtain ⟨k, rfl⟩ : ∃ j, k = j + 1 := ⟨k - 1, by omega⟩
        rw [if_pos h4]
        rw [h4, List.append_nil] at hre
        rw [hre]
        simp only [RR]
        rw [if_neg (by omega)]
        exact fin2_full W hW
      · rw [if_neg h4]
        have hl5 : (l ++ List.replicate z 0 ++ l3.take n).length = l.length + z + n := by simp; omega
        exact RR_full W hW r k kr l4 _ h4 hre (by rw [hl5]; omega) (by omega)
/-- What the document's Read answers. -/
def readT (b : List Int) : List Int × Bool := match readO b with | some l => (l, true) | none => ([], false)
set_option maxRecDepth 20000 in
theorem refRead_is (b : List Int) (hb : ∀ x ∈ b, IsByte x) (hl : b.length ≤ 1000000) : Evt (fun k => trencherref33_Read.f k b) (readT b) := by
  by_cases h4 : b.length < 4
  · have e : readO b = none := by unfold readO; rw [if_neg (by omega)]
    unfold readT
    rw [e]
    refine Evt.eq (g' := fun _ => some _) (fun k => ?_) Evt.pure
    simp only [trencherref33_Read.f]
    rw [if_pos (by omega)]
  · have hne : b ≠ [] := fun e => by rw [e] at h4; simp at h4
    have hn := refnum_is b 4 hb (by omega) hl
    suffices hs : ∃ T, Evt (fun k => trencherref33_Read.f k b) T ∧ (T = ([], false) ∨ ∃ y, T = (y, true) ∧ ValidW y ∧ fullB y = b) ∧ (∀ W, ValidW W → fullB W = b → T = (W, true)) by
      obtain ⟨T, h1, h2, h3⟩ := hs
      have : T = readT b := by
        unfold readT
        cases hr : readO b with
        | some l =>
          obtain ⟨hv, hf⟩ := read_right b l hb hr
          exact h3 l hv hf
        | none =>
          rcases h2 with h2 | ⟨y, h2, hv, hf⟩
          · exact h2
          · have := read_full y hv
            rw [hf, hr] at this
            exact absurd this (by simp)
      rw [← this]; exact h1
    have hf : ∀ k, trencherref33_Read.f k b = (trencherref33_number.f k b ((4 : Nat) : Int)).bind fun t => ((trencherref33_May.f t.1).bind fun m => (if m = true then (trencherref33_Read.l0 k b t.1 t.2 ([] : List Int)) else (some (([] : List Int), false)))) := fun k => by
      simp only [trencherref33_Read.f]
      rw [if_neg (by omega)]; rfl
    cases hz : rn 4 0 0 (b.drop 4) with
    | none =>
      rw [hz] at hn
      replace hn : Evt (fun k => trencherref33_number.f k b ((4 : Nat) : Int)) (-1, ((4 : Nat) : Int)) := hn
      refine ⟨([], false), Evt.eq hf (Evt.bind hn (Evt.eq (g' := fun _ => some _) (fun k => ?_) Evt.pure)), .inl rfl, fun W hW hWb => ?_⟩
      · dsimp only
        rw [refMay_neg _ (by omega)]; rfl
      · rw [← hWb, fullB_four, rn_read W.length hW.2.1] at hz
        exact absurd hz (by simp)
    | some p =>
      obtain ⟨m, c⟩ := p
      rw [hz] at hn
      replace hn : Evt (fun k => trencherref33_number.f k b ((4 : Nat) : Int)) (m, ((4 + c : Nat) : Int)) := hn
      have hbd : ∀ x ∈ b.drop 4, IsByte x := fun x hx => hb x (List.mem_of_mem_drop hx)
      obtain ⟨z0, z1, z2, z3⟩ := rn_spec 4 0 0 (b.drop 4) m c rfl (by omega) (by decide) hbd hz
      rw [List.length_drop] at z3
      obtain ⟨m, rfl⟩ := Int.eq_ofNat_of_zero_le z0
      by_cases hmay : 8 ≤ (m : Int) ∧ (m : Int) ≤ 16384 ∧ (m : Int) % 8 = 0
      · have hr := r_l0 b hb hl m (by omega) (m + 1) (4 + c) [] (by omega) (by simp) (by simp) (by simp)
        refine ⟨RR b m (m + 1) [] (b.drop (4 + c)), Evt.eq hf (Evt.bind hn (Evt.eq (fun k => ?_) hr)), RR_sound b hb hne m _ _ _ (by simp), fun W hW hWb => ?_⟩
        · dsimp only
          rw [refMay_is _ (by omega), Option.bind_some, if_pos (by simpa using hmay)]
        · subst hWb
          rw [fullB_four, rn_read W.length hW.2.1] at hz
          injection hz with hz
          injection hz with hz1 hz2
          have hmW : m = W.length := by omega
          subst hmW
          have hd : (fullB W).drop (4 + c) = runsB (W.length + 1) W ++ leB 4 (IntKind.u64.wrap (sumOf (headB W))) := by
            rw [← List.drop_drop, fullB_four]; exact List.drop_left' hz2
          rw [hd]
          exact RR_full W hW _ (W.length + 1) (W.length + 1) W [] (fun e => by have := hW.1; rw [e] at this; simp at this) (by simp) (by simp) (by omega)
      · refine ⟨([], false), Evt.eq hf (Evt.bind hn (Evt.eq (g' := fun _ => some _) (fun k => ?_) Evt.pure)), .inl rfl, fun W hW hWb => ?_⟩
        · dsimp only
          rw [refMay_is _ (by omega), Option.bind_some, if_neg (by simpa using hmay)]
        · rw [← hWb, fullB_four, rn_read W.length hW.2.1] at hz
          injection hz with hz
          injection hz with hz1 hz2
          have := hW.1; have := hW.2.1; have := hW.2.2.1
          exact absurd ⟨by omega, by omega, by omega⟩ hmay
end Go.Proofs.Ytanelaajdajjnaa
