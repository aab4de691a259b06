/- The walk of BackupWrites: it answers true. Conditions: none. -/
import Derived.Test.YtanelaajdajjnaaL2
namespace Go.Proofs.Ytanelaajdajjnaa
open Go.RowKit Go.Proofs.YtanelaajdajjnaaW.PrintWords Go.Proofs.YtanelaajdajjnaaW.PrintLast Go.Proofs.YtanelaajdajjnaaW.PrintMore
set_option linter.unusedVariables false
set_option linter.unusedSimpArgs false
open PBackupReads
/-- How many aren't 0. -/
def nz (l : List Int) : Nat := (l.filter fun x => x != 0).length
theorem nz_le (l : List Int) : nz l ≤ l.length := List.length_filter_le _ _
theorem nz_snoc (l : List Int) (i : Nat) (h : i < l.length) : nz (l.take (i + 1)) = nz (l.take i) + if (l.getD i 0 != 0) = true then 1 else 0 := by
  unfold nz
  rw [List.take_succ_eq_append_getElem h, List.filter_append, List.length_append, List.getD_eq_getElem?_getD, List.getElem?_eq_getElem h, Option.getD_some]
  by_cases hx : (l[i] != 0) = true
  · rw [if_pos hx]; simp [List.filter_cons, hx]
  · rw [if_neg hx]; simp only [Bool.not_eq_true] at hx; simp [List.filter_cons, hx]
set_option maxHeartbeats 1000000 in
theorem sparse_any (A : Option Addr) (c : Nat) (l : List Int) (w : World) (hr : Kd.C (Kd.int .u64) w A l.length l) (hc : l.length ≤ c) (hl : l.length ≤ 2000) :
    Calls Try.prog 14 #[.slice A l.length c] w fun e w' => e = .returned (.int .i64 (nz l)) ∧ w' = w := by
  go_enter Try.func14, Try.ntmps14
  go_wp2
  go_loopg [3, 8] (l.length + 1) (fun kq v3 v8 w' => ∃ (i m : Nat), v3 = .int .i64 m ∧ v8 = .int .i64 i ∧ Aside0 (kq + i = l.length + 1 ∧ 0 < kq ∧ m = nz (l.take i)) ∧ m ≤ 2000 ∧ i ≤ 2000 ∧ w' = w)
  case atStart => exact ⟨0, 0, rfl, rfl, ⟨by omega, by omega, rfl⟩, by omega, by omega, rfl⟩
  case round =>
    obtain ⟨i, m, rfl, rfl, HA, hm, hi2, rfl⟩ := hrel
    by_cases hlt : i < l.length
    · have b0 : decide (i < l.length) = true := by simp [hlt]
      obtain ⟨ad, rfl, hcell⟩ := Kd.at_int hr (i : Int) (by omega) (by omega)
      simp only [rd, Int.toNat_natCast] at hcell
      have hs := nz_snoc l i hlt
      obtain ⟨x, hx⟩ : ∃ x, x = l.getD i 0 := ⟨_, rfl⟩
      rw [← hx] at hcell hs
      rw [← HA.out.2.2] at hs
      clear hx
      by_cases hx0 : (x != 0) = true
      · rw [if_pos hx0] at hs
        have hle := nz_le (l.take (i + 1))
        rw [hs, List.length_take] at hle
        have hle2 : m + 1 ≤ 2000 := by omega
        have HS := Lib.hid hs
        clear hs hle
        go_wp2_with fail
        go_roundg (gk - 1)
        case measure => have := HA.out; omega
        case rel => exact ⟨i + 1, m + 1, by go_num, by go_num, ⟨by have := HA.out; omega, by have := HA.out; omega, HS.out.symm⟩, by omega, by omega, rfl⟩
      · rw [if_neg hx0] at hs
        simp only [Bool.not_eq_true] at hx0
        have HS := Lib.hid hs
        clear hs
        go_wp2_with fail
        go_roundg (gk - 1)
        case measure => have := HA.out; omega
        case rel => exact ⟨i + 1, m, rfl, by go_num, ⟨by have := HA.out; omega, by have := HA.out; omega, HS.out.symm⟩, by omega, by omega, rfl⟩
    · have b0 : decide (i < l.length) = false := by simp; omega
      have ht : m = nz l := by rw [HA.out.2.2, List.take_of_length_le (by omega)]
      have HT := Lib.hid ht
      clear ht
      go_wp2_with fail
      go_ret
      exact ⟨by rw [← HT.out]; rfl, rfl⟩
theorem write_c (A : Option Addr) (c : Nat) (l : List Int) (w : World) (hr : Kd.C (Kd.int .u64) w A l.length l) (hc : l.length ≤ c) (hn : l.length ≤ 140737488351232) (hm : mayB l.length = true) :
    Calls Try.prog 8 #[.slice A l.length c] w fun e w' => ∃ A2 c2, e = .returned (.tuple #[.slice A2 (fullB l).length c2, .int .i64 0]) ∧ Kd.C (Kd.int .u8) w' A2 (fullB l).length (fullB l) ∧ (fullB l).length ≤ c2 ∧ Below w.heap.size w w' := by
  refine (write_yes A c l w hr hc hn hm).mono ?_
  rintro e w' ⟨v, rfl, ho, hB⟩
  obtain ⟨A2, c2, rfl⟩ := Kd.R_slice ho
  obtain ⟨_, h1, h2⟩ := Kd.R_reads' ho
  exact ⟨A2, c2, rfl, h2, h1, hB⟩
theorem refwrite_yes (A : Option Addr) (c : Nat) (l : List Int) (w : World) (hr : Kd.C (Kd.int .u64) w A l.length l) (hc : l.length ≤ c) (hw : ∀ x ∈ l, IsWord x) (hm : mayB l.length = true) :
    Calls Try.prog 13 #[.slice A l.length c] w fun e w' => ∃ A2 c2, e = .returned (.tuple #[.slice A2 (fullB l).length c2, .bool true]) ∧ Kd.C (Kd.int .u8) w' A2 (fullB l).length (fullB l) ∧ (fullB l).length ≤ c2 ∧ Below w.heap.size w w' := by
  refine (refwrite_any A c l w hr hc hw).mono ?_
  have e1 : okW l = true := hm
  rw [e1]
  rintro e w' ⟨v, rfl, ho, hB⟩
  simp only [if_true] at ho
  obtain ⟨A2, c2, rfl⟩ := Kd.R_slice ho
  obtain ⟨_, h1, h2⟩ := Kd.R_reads' ho
  exact ⟨A2, c2, rfl, h2, h1, hB⟩
theorem refwrite_no (A : Option Addr) (c : Nat) (l : List Int) (w : World) (hr : Kd.C (Kd.int .u64) w A l.length l) (hc : l.length ≤ c) (hw : ∀ x ∈ l, IsWord x) (hm : mayB l.length = false) :
    Calls Try.prog 13 #[.slice A l.length c] w fun e w' => ∃ v, e = .returned (.tuple #[v, .bool false]) ∧ Below w.heap.size w w' := by
  refine (refwrite_any A c l w hr hc hw).mono ?_
  have e1 : okW l = false := hm
  rw [e1]
  rintro e w' ⟨v, rfl, ho, hB⟩
  exact ⟨v, rfl, hB⟩
set_option maxHeartbeats 2000000 in
theorem writes_any (A0 : Option Addr) (c0 : Nat) (l : List Int) (w : World) (hr : Kd.C (Kd.int .u64) w A0 l.length l) (hc : l.length ≤ c0) (h0 : l.length * 8 ≤ 140737488351232) (hw : ∀ x ∈ l, IsWord x) :
    Calls Try.prog 6 #[.slice A0 l.length c0] w (TrueB w) := by
  by_cases hl : 2000 < l.length
  · have b0 : decide ((l.length : Int) > 2000) = true := by simp; omega
    go_enter Try.func6, Try.ntmps6
    go_wp2_with (go_at_call 7; refine (alive_any _).mono ?_; rintro e w1 ⟨rfl, hb1⟩)
    go_ret
    exact ⟨rfl, hb1⟩
  · have b0 : decide ((l.length : Int) > 2000) = false := by simp; omega
    cases hm : mayB l.length with
    | false =>
      go_enter Try.func6, Try.ntmps6
      go_wp2_with (first | (go_at_call 7; refine (alive_any _).mono ?_; rintro e w1 ⟨rfl, hb1⟩) | (go_at_call 8; (with_reducible refine (write_no A0 c0 l _ (by omega) hm).mono ?_); rintro e w2 ⟨rfl, hb2⟩; have hb3 := bbelow hb1 hb2 hb1.size) | (go_at_call 13; (with_reducible refine (refwrite_no A0 c0 l _ (Kd.C_below hr hb3) hc hw hm).mono ?_); rintro e w3 ⟨v3, rfl, hb4⟩; have hb5 := bbelow hb3 hb4 hb3.size; clear hb1 hb2 hb3 hb4))
      have hrW := Kd.C_below hr hb5
      go_loopg [7, 8] (l.length + 1) (fun kq v7 v8 w' => ∃ (i m : Nat), v7 = .int .i64 m ∧ v8 = .int .i64 i ∧ Aside0 (kq + i = l.length + 1 ∧ 0 < kq ∧ m = nz (l.take i)) ∧ m ≤ 2000 ∧ i ≤ 2000 ∧ w' = w3)
      case atStart => exact ⟨0, 0, rfl, rfl, ⟨by omega, by omega, rfl⟩, by omega, by omega, rfl⟩
      case round =>
        obtain ⟨i, m, rfl, rfl, HA, hmm, hi2, rfl⟩ := hrel
        by_cases hlt : i < l.length
        · have b1 : decide (i < l.length) = true := by simp [hlt]
          obtain ⟨ad, rfl, hcell⟩ := Kd.at_int hrW (i : Int) (by omega) (by omega)
          simp only [rd, Int.toNat_natCast] at hcell
          have hs := nz_snoc l i hlt
          obtain ⟨x, hx⟩ : ∃ x, x = l.getD i 0 := ⟨_, rfl⟩
          rw [← hx] at hcell hs
          rw [← HA.out.2.2] at hs
          clear hx
          by_cases hx0 : (x != 0) = true
          · rw [if_pos hx0] at hs
            have hle := nz_le (l.take (i + 1))
            rw [hs, List.length_take] at hle
            have hle2 : m + 1 ≤ 2000 := by omega
            have HS := Lib.hid hs
            clear hs hle
            go_wp2_with fail
            go_roundg (gk - 1)
            case measure => have := HA.out; omega
            case rel => exact ⟨i + 1, m + 1, by go_num, by go_num, ⟨by have := HA.out; omega, by have := HA.out; omega, HS.out.symm⟩, by omega, by omega, rfl⟩
          · rw [if_neg hx0] at hs
            simp only [Bool.not_eq_true] at hx0
            have HS := Lib.hid hs
            clear hs
            go_wp2_with fail
            go_roundg (gk - 1)
            case measure => have := HA.out; omega
            case rel => exact ⟨i + 1, m, rfl, by go_num, ⟨by have := HA.out; omega, by have := HA.out; omega, HS.out.symm⟩, by omega, by omega, rfl⟩
        · have b1 : decide (i < l.length) = false := by simp; omega
          have ht : m = nz l := by rw [HA.out.2.2, List.take_of_length_le (by omega)]
          have HT := Lib.hid ht
          have HA2 := HA
          clear ht HA
          go_wp2_with (go_at_call 14; (with_reducible refine (sparse_any _ c0 l _ hrW hc (by omega)).mono ?_); rw [← HT.out]; rintro e w' ⟨rfl, rfl⟩)
          go_ret
          exact ⟨rfl, hb5⟩
    | true =>
      have HRF := Lib.hid (read_full l (valid_of l hm hw))
      have HFL := Aside0.mk (fullB_len l (by omega))
      go_enter Try.func6, Try.ntmps6
      go_wp2_with (first | (go_at_call 7; refine (alive_any _).mono ?_; rintro e w1 ⟨rfl, hb1⟩) | (go_at_call 8; (with_reducible refine (write_c A0 c0 l _ (Kd.C_below hr hb1) hc (by omega) hm).mono ?_); rintro e w2 ⟨A2, c2, rfl, hC2, hc2, hb2⟩; have hb3 := bbelow hb1 hb2 hb1.size) | (go_at_call 13; (with_reducible refine (refwrite_yes A0 c0 l _ (Kd.C_below hr hb3) hc hw hm).mono ?_); rintro e w3 ⟨A3, c3, rfl, hC3, hc3, hb4⟩; have hb5 := bbelow hb3 hb4 hb3.size; replace hC2 := Kd.C_below hC2 hb4; clear hb1 hb2 hb3 hb4))
      have hrW := Kd.C_below hr hb5
      go_loopg [7, 8] (l.length + 1) (fun kq v7 v8 w' => ∃ (i m : Nat), v7 = .int .i64 m ∧ v8 = .int .i64 i ∧ Aside0 (kq + i = l.length + 1 ∧ 0 < kq ∧ m = nz (l.take i)) ∧ m ≤ 2000 ∧ i ≤ 2000 ∧ w' = w3)
      case atStart => exact ⟨0, 0, rfl, rfl, ⟨by omega, by omega, rfl⟩, by omega, by omega, rfl⟩
      case round =>
        obtain ⟨i, m, rfl, rfl, HA, hmm, hi2, rfl⟩ := hrel
        by_cases hlt : i < l.length
        · have b1 : decide (i < l.length) = true := by simp [hlt]
          obtain ⟨ad, rfl, hcell⟩ := Kd.at_int hrW (i : Int) (by omega) (by omega)
          simp only [rd, Int.toNat_natCast] at hcell
          have hs := nz_snoc l i hlt
          obtain ⟨x, hx⟩ : ∃ x, x = l.getD i 0 := ⟨_, rfl⟩
          rw [← hx] at hcell hs
          rw [← HA.out.2.2] at hs
          clear hx
          by_cases hx0 : (x != 0) = true
          · rw [if_pos hx0] at hs
            have hle := nz_le (l.take (i + 1))
            rw [hs, List.length_take] at hle
            have hle2 : m + 1 ≤ 2000 := by omega
            have HS := Lib.hid hs
            clear hs hle
            go_wp2_with fail
            go_roundg (gk - 1)
            case measure => have := HA.out; omega
            case rel => exact ⟨i + 1, m + 1, by go_num, by go_num, ⟨by have := HA.out; omega, by have := HA.out; omega, HS.out.symm⟩, by omega, by omega, rfl⟩
          · rw [if_neg hx0] at hs
            simp only [Bool.not_eq_true] at hx0
            have HS := Lib.hid hs
            clear hs
            go_wp2_with fail
            go_roundg (gk - 1)
            case measure => have := HA.out; omega
            case rel => exact ⟨i + 1, m, rfl, by go_num, ⟨by have := HA.out; omega, by have := HA.out; omega, HS.out.symm⟩, by omega, by omega, rfl⟩
        · have b1 : decide (i < l.length) = false := by simp; omega
          have ht : m = nz l := by rw [HA.out.2.2, List.take_of_length_le (by omega)]
          have HT := Lib.hid ht
          have HA2 := HA
          clear ht HA
          go_wp2_with (first | (go_at_call 14; (with_reducible refine (sparse_any _ c0 l _ hrW hc (by omega)).mono ?_); rw [← HT.out]; rintro e w' ⟨rfl, rfl⟩) | (go_at_call 10; (with_reducible refine (read_some A2 c2 (fullB l) l (fullB_byte l) _ hC2 hc2 (by have := HFL.out; omega) HRF.out).mono ?_); rintro e w4 ⟨A4, c4, rfl, hC4, hc4, hb6⟩; have hcv2 := Kd.C_string (P := Try.prog) (src := 24) (dst := 9) (c := c2) Try.underlying24 Try.underlying5 Try.underlying9 (Kd.C_below hC2 hb6); have hcv3 := Kd.C_string (P := Try.prog) (src := 24) (dst := 9) (c := c3) Try.underlying24 Try.underlying5 Try.underlying9 (Kd.C_below hC3 hb6); have hb7 := bbelow hb5 hb6 hb5.size; have hr4 := Kd.C_below hrW hb6) | (go_at_call 9; (with_reducible refine (same_self A4 c4 l _ c0 _ hC4 hc4 hr4 hc (by omega)).mono ?_); rintro e w' ⟨rfl, hd⟩; obtain ⟨nd, rfl⟩ := hd.out))
          go_ret
          exact ⟨rfl, pw_below_drewN hb7 _⟩
theorem backupWrites_row (A0 : Option Addr) (c0 : Nat) (l : List Int) (w : World) (hr : Kd.C (Kd.int .u64) w A0 l.length l) (hc : l.length ≤ c0) (h0 : l.length * 8 ≤ 140737488351232) (hw : ∀ x ∈ l, (Lit.int .u64 x).wf = true) :
    Calls Try.prog 6 #[.slice A0 l.length c0] w (TrueB w) := writes_any A0 c0 l w hr hc h0 (fun x hx => wf_word (hw x hx))
end Go.Proofs.Ytanelaajdajjnaa
