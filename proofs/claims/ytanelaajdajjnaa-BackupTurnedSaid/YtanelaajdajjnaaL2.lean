/- The walk of BackupReads: it answers true. Conditions: none. -/
import Derived.Test.YtanelaajdajjnaaL1
namespace Go.Proofs.Ytanelaajdajjnaa
open Go.RowKit Go.Proofs.YtanelaajdajjnaaW.PrintWords Go.Proofs.YtanelaajdajjnaaW.PrintLast Go.Proofs.YtanelaajdajjnaaW.PrintMore
set_option linter.unusedVariables false
set_option linter.unusedSimpArgs false
open PBackupReads
theorem read_some (A : Option Addr) (c : Nat) (b l : List Int) (hb : ∀ x ∈ b, IsByte x) (w : World) (hr : Kd.C (Kd.int .u8) w A b.length b) (hc : b.length ≤ c) (hn : b.length ≤ 140737488351232) (h : readO b = some l) :
    Calls Try.prog 10 #[.slice A b.length c] w fun e w' => ∃ A2 c2, e = .returned (.tuple #[.slice A2 l.length c2, .int .i64 0]) ∧ Kd.C (Kd.int .u64) w' A2 l.length l ∧ l.length ≤ c2 ∧ Below w.heap.size w w' := by
  refine (read_any A c b hb w hr hc hn).mono ?_
  rw [h]
  rintro e w' ⟨v, rfl, ho, hB⟩
  obtain ⟨A2, c2, rfl⟩ := Kd.R_slice ho
  obtain ⟨_, h1, h2⟩ := Kd.R_reads' ho
  exact ⟨A2, c2, rfl, h2, h1, hB⟩
theorem read_none (A : Option Addr) (c : Nat) (b : List Int) (hb : ∀ x ∈ b, IsByte x) (w : World) (hr : Kd.C (Kd.int .u8) w A b.length b) (hc : b.length ≤ c) (hn : b.length ≤ 140737488351232) (h : readO b = none) :
    Calls Try.prog 10 #[.slice A b.length c] w fun e w' => e = .returned (.tuple #[.slice none 0 0, .int .i64 11]) ∧ Below w.heap.size w w' := by
  refine (read_any A c b hb w hr hc hn).mono ?_
  rw [h]
  rintro e w' ⟨rfl, hB⟩
  exact ⟨rfl, hB⟩
theorem same_self (A0 : Option Addr) (c0 : Nat) (l : List Int) (A1 : Option Addr) (c1 : Nat) (w : World) (hr0 : Kd.C (Kd.int .u64) w A0 l.length l) (hc0 : l.length ≤ c0) (hr1 : Kd.C (Kd.int .u64) w A1 l.length l) (hc1 : l.length ≤ c1) (hb : l.length ≤ 9223372036854775806) :
    Calls Try.prog 9 #[.slice A0 l.length c0, .slice A1 l.length c1] w fun e w' => e = .returned (.bool true) ∧ Drawn0 w w' := by
  have := same_any A0 c0 l A1 c1 l w hr0 hc0 hr1 hc1 hb
  rwa [show decide (l = l) = true by simp] at this
theorem same_nils (A1 : Option Addr) (c1 : Nat) (w : World) (hr1 : Kd.C (Kd.int .u64) w A1 ([] : List Int).length []) : Calls Try.prog 9 #[.slice none 0 0, .slice A1 0 c1] w fun e w' => e = .returned (.bool true) ∧ Drawn0 w w' :=
  same_self none 0 [] A1 c1 w (Kd.C_nil _ _) (Nat.le_refl _) hr1 (Nat.zero_le _) (by simp)
theorem refread_c (A : Option Addr) (c : Nat) (b l : List Int) (ok : Bool) (w : World) (hr : Kd.C (Kd.int .u8) w A b.length b) (hc : b.length ≤ c) (hb : ∀ x ∈ b, IsByte x) (hl : b.length ≤ 1000000) (h : readT b = (l, ok)) :
    Calls Try.prog 11 #[.slice A b.length c] w fun e w' => ∃ A2 c2, e = .returned (.tuple #[.slice A2 l.length c2, .bool ok]) ∧ Kd.C (Kd.int .u64) w' A2 l.length l ∧ l.length ≤ c2 ∧ Below w.heap.size w w' := by
  refine (refread_any A c b w hr hc hb hl).mono ?_
  rw [h]
  rintro e w' ⟨v, rfl, ho, hB⟩
  obtain ⟨A2, c2, rfl⟩ := Kd.R_slice ho
  obtain ⟨_, h1, h2⟩ := Kd.R_reads' ho
  exact ⟨A2, c2, rfl, h2, h1, hB⟩
set_option maxHeartbeats 1000000 in
theorem reads_any (A0 : Option Addr) (c0 : Nat) (b : List Int) (w : World) (hr : Kd.C (Kd.int .u8) w A0 b.length b) (hc : b.length ≤ c0) (h0 : b.length * 1 ≤ 140737488351232) (hb : ∀ x ∈ b, IsByte x) :
    Calls Try.prog 4 #[.slice A0 b.length c0] w (TrueB w) := by
  by_cases hl : 5000 < b.length
  · have b0 : decide ((b.length : Int) > 5000) = true := by simp; omega
    go_enter Try.func4, Try.ntmps4
    go_wp2_with (go_at_call 7; refine (alive_any _).mono ?_; rintro e w1 ⟨rfl, hb1⟩)
    go_ret
    exact ⟨rfl, hb1⟩
  · have b0 : decide ((b.length : Int) > 5000) = false := by simp; omega
    cases h : readO b with
    | some l =>
      have ht : readT b = (l, true) := by unfold readT; rw [h]
      have hv := (read_right b l hb h).1.2.1
      go_enter Try.func4, Try.ntmps4
      go_wp2_with (first | (go_at_call 7; refine (alive_any _).mono ?_; rintro e w1 ⟨rfl, hb1⟩) | (go_at_call 10; (with_reducible refine (read_some A0 c0 b l hb _ (Kd.C_below hr hb1) hc (by omega) h).mono ?_); rintro e w2 ⟨A2, c2, rfl, hC2, hc2, hb2⟩; have hb3 := bbelow hb1 hb2 hb1.size) | (go_at_call 11; (with_reducible refine (refread_c A0 c0 b l true _ (Kd.C_below hr hb3) hc hb (by omega) ht).mono ?_); rintro e w3 ⟨A3, c3, rfl, hC3, hc3, hb4⟩; have hb5 := bbelow hb3 hb4 hb3.size; have hC4 := Kd.C_below hC2 hb4) | (go_at_call 9; (with_reducible refine (same_self A2 c2 l A3 c3 _ hC4 hc2 hC3 hc3 (by omega)).mono ?_); rintro e w' ⟨rfl, hd⟩; obtain ⟨nd, rfl⟩ := hd.out))
      go_ret
      exact ⟨rfl, pw_below_drewN hb5 _⟩
    | none =>
      have ht : readT b = ([], false) := by unfold readT; rw [h]
      go_enter Try.func4, Try.ntmps4
      go_wp2_with (first | (go_at_call 7; refine (alive_any _).mono ?_; rintro e w1 ⟨rfl, hb1⟩) | (go_at_call 10; (with_reducible refine (read_none A0 c0 b hb _ (Kd.C_below hr hb1) hc (by omega) h).mono ?_); rintro e w2 ⟨rfl, hb2⟩; have hb3 := bbelow hb1 hb2 hb1.size) | (go_at_call 11; (with_reducible refine (refread_c A0 c0 b [] false _ (Kd.C_below hr hb3) hc hb (by omega) ht).mono ?_); rintro e w3 ⟨A3, c3, rfl, hC3, hc3, hb4⟩; have hb5 := bbelow hb3 hb4 hb3.size) | (go_at_call 9; (with_reducible refine (same_nils A3 c3 _ hC3).mono ?_); rintro e w' ⟨rfl, hd⟩; obtain ⟨nd, rfl⟩ := hd.out))
      go_ret
      exact ⟨rfl, pw_below_drewN hb5 _⟩
theorem backupReads_row (A0 : Option Addr) (c0 : Nat) (b : List Int) (w : World) (hr : Kd.C (Kd.int .u8) w A0 b.length b) (hc : b.length ≤ c0) (h0 : b.length * 1 ≤ 140737488351232) (hb : ∀ x ∈ b, (Lit.int .u8 x).wf = true) :
    Calls Try.prog 4 #[.slice A0 b.length c0] w (TrueB w) := reads_any A0 c0 b w hr hc h0 (fun x hx => wf_byte (hb x hx))
end Go.Proofs.Ytanelaajdajjnaa
