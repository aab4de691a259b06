/- The walk of BackupApart: it answers true. Conditions: none. -/
import Derived.Test.YtanelaajdajjnaaB11
import Derived.Deep.QuietTactic
import Derived.BigQuiet
namespace Go.Proofs.Ytanelaajdajjnaa
open Go.RowKit Go.Proofs.YtanelaajdajjnaaW.PrintWords Go.Proofs.YtanelaajdajjnaaW.PrintLast Go.Proofs.YtanelaajdajjnaaW.PrintMore
set_option linter.unusedVariables false
set_option linter.unusedSimpArgs false
open PBackupReads
theorem fullB_inj (a b : List Int) (ha : ValidW a) (hb : ValidW b) (h : fullB a = fullB b) : a = b := by
  have h1 := read_full a ha
  rw [h, read_full b hb] at h1
  exact (Option.some.inj h1).symm
theorem valid_of (l : List Int) (h : mayB l.length = true) (hw : ∀ x ∈ l, IsWord x) : ValidW l := by
  have := (mayB_iff _).1 h
  exact ⟨by omega, by omega, this.2.2, hw⟩
theorem apart_fin (a b : List Int) (ha : ValidW a) (hb : ValidW b) : (((strOfNums (fullB a)).toList == (strOfNums (fullB b)).toList) == decide (a = b)) = true := by
  by_cases h : a = b
  · subst h; simp
  · have : ¬ (strOfNums (fullB a)).toList = (strOfNums (fullB b)).toList := fun e => h (fullB_inj a b ha hb ((sameS_iff _ _ (fullB_byte a) (fullB_byte b)).1 e))
    simp [this, h]
def TrueB (w : World) (e : Ending) (w' : World) : Prop := e = .returned (.bool true) ∧ Below w.heap.size w w'
set_option maxHeartbeats 1000000 in
theorem apart_long (A0 : Option Addr) (c0 : Nat) (l0 : List Int) (A1 : Option Addr) (c1 : Nat) (l1 : List Int) (w : World) (h0 : l0.length ≤ 17592186044416) (h1 : l1.length ≤ 17592186044416) (hl : 1000 < l0.length ∨ 1000 < l1.length) :
    Calls Try.prog 3 #[.slice A0 l0.length c0, .slice A1 l1.length c1] w (TrueB w) := by
  by_cases h : 1000 < l0.length
  · have b0 : decide ((l0.length : Int) > 1000) = true := by simp; omega
    go_enter Try.func3, Try.ntmps3
    go_wp2_with (go_at_call 7; refine (alive_any _).mono ?_; rintro e w1 ⟨rfl, hb1⟩)
    go_ret
    exact ⟨rfl, hb1⟩
  · have b0 : decide ((l0.length : Int) > 1000) = false := by simp; omega
    have b1 : decide ((l1.length : Int) > 1000) = true := by simp; omega
    go_enter Try.func3, Try.ntmps3
    go_wp2_with (go_at_call 7; refine (alive_any _).mono ?_; rintro e w1 ⟨rfl, hb1⟩)
    go_ret
    exact ⟨rfl, hb1⟩
theorem bbelow {B : Nat} {w0 w w2 : World} (h : Below B w0 w) (k : Below w.heap.size w w2) (hB : B ≤ w.heap.size) : Below B w0 w2 := h.trans (k.mono hB)
set_option maxHeartbeats 1000000 in
theorem apart_one (A0 : Option Addr) (c0 : Nat) (l0 : List Int) (A1 : Option Addr) (c1 : Nat) (l1 : List Int) (w : World) (h0 : l0.length ≤ 1000) (h1 : l1.length ≤ 1000) (hr0 : Kd.C (Kd.int .u64) w A0 l0.length l0) (hc0 : l0.length ≤ c0) (hr1 : Kd.C (Kd.int .u64) w A1 l1.length l1) (hc1 : l1.length ≤ c1) (hm : mayB l0.length = false) :
    Calls Try.prog 3 #[.slice A0 l0.length c0, .slice A1 l1.length c1] w (TrueB w) := by
  have b0 : decide ((l0.length : Int) > 1000) = false := by simp; omega
  have b1 : decide ((l1.length : Int) > 1000) = false := by simp; omega
  cases hm1 : mayB l1.length with
  | false =>
    go_enter Try.func3, Try.ntmps3
    go_wp2_with (first | (go_at_call 7; refine (alive_any _).mono ?_; rintro e w1 ⟨rfl, hb1⟩; have tok1 : True := trivial) | (go_at_call 8; have _t := tok1; (with_reducible refine (write_no A0 c0 l0 _ (by omega) hm).mono ?_); rintro e w2 ⟨rfl, hb2⟩; clear tok1; have tok2 : True := trivial) | (go_at_call 8; have _t := tok2; (with_reducible refine (write_no A1 c1 l1 _ (by omega) hm1).mono ?_); rintro e w3 ⟨rfl, hb3⟩))
    go_ret
    exact ⟨rfl, bbelow (bbelow hb1 hb2 hb1.size) hb3 (by have := hb1.size; have := hb2.size; omega)⟩
  | true =>
    go_enter Try.func3, Try.ntmps3
    go_wp2_with (first | (go_at_call 7; refine (alive_any _).mono ?_; rintro e w1 ⟨rfl, hb1⟩; have tok1 : True := trivial) | (go_at_call 8; have _t := tok1; (with_reducible refine (write_no A0 c0 l0 _ (by omega) hm).mono ?_); rintro e w2 ⟨rfl, hb2⟩; clear tok1; have tok2 : True := trivial) | (go_at_call 8; have _t := tok2; (with_reducible refine (write_yes A1 c1 l1 _ (Kd.C_below hr1 (bbelow hb1 hb2 hb1.size)) hc1 (by omega) hm1).mono ?_); rintro e w3 ⟨v3, rfl, ho3, hb3⟩))
    go_ret
    exact ⟨rfl, bbelow (bbelow hb1 hb2 hb1.size) hb3 (by have := hb1.size; have := hb2.size; omega)⟩
set_option maxHeartbeats 1000000 in
theorem apart_two (A0 : Option Addr) (c0 : Nat) (l0 : List Int) (A1 : Option Addr) (c1 : Nat) (l1 : List Int) (w : World) (h0 : l0.length ≤ 1000) (h1 : l1.length ≤ 1000) (hr0 : Kd.C (Kd.int .u64) w A0 l0.length l0) (hc0 : l0.length ≤ c0) (hr1 : Kd.C (Kd.int .u64) w A1 l1.length l1) (hc1 : l1.length ≤ c1) (hm : mayB l0.length = true) (hm1 : mayB l1.length = false) :
    Calls Try.prog 3 #[.slice A0 l0.length c0, .slice A1 l1.length c1] w (TrueB w) := by
  have b0 : decide ((l0.length : Int) > 1000) = false := by simp; omega
  have b1 : decide ((l1.length : Int) > 1000) = false := by simp; omega
  go_enter Try.func3, Try.ntmps3
  go_wp2_with (first | (go_at_call 7; refine (alive_any _).mono ?_; rintro e w1 ⟨rfl, hb1⟩; have tok1 : True := trivial) | (go_at_call 8; have _t := tok1; (with_reducible refine (write_yes A0 c0 l0 _ (Kd.C_below hr0 hb1) hc0 (by omega) hm).mono ?_); rintro e w2 ⟨v2, rfl, ho2, hb2⟩; clear tok1; have tok2 : True := trivial) | (go_at_call 8; have _t := tok2; (with_reducible refine (write_no A1 c1 l1 _ (by omega) hm1).mono ?_); rintro e w3 ⟨rfl, hb3⟩))
  go_ret
  exact ⟨rfl, bbelow (bbelow hb1 hb2 hb1.size) hb3 (by have := hb1.size; have := hb2.size; omega)⟩
set_option maxHeartbeats 1000000 in
theorem apart_both (A0 : Option Addr) (c0 : Nat) (l0 : List Int) (A1 : Option Addr) (c1 : Nat) (l1 : List Int) (w : World) (h0 : l0.length ≤ 1000) (h1 : l1.length ≤ 1000) (hr0 : Kd.C (Kd.int .u64) w A0 l0.length l0) (hc0 : l0.length ≤ c0) (hr1 : Kd.C (Kd.int .u64) w A1 l1.length l1) (hc1 : l1.length ≤ c1) (hm : mayB l0.length = true) (hm1 : mayB l1.length = true) (hw0 : ∀ x ∈ l0, IsWord x) (hw1 : ∀ x ∈ l1, IsWord x) :
    Calls Try.prog 3 #[.slice A0 l0.length c0, .slice A1 l1.length c1] w (TrueB w) := by
  have b0 : decide ((l0.length : Int) > 1000) = false := by simp; omega
  have b1 : decide ((l1.length : Int) > 1000) = false := by simp; omega
  go_enter Try.func3, Try.ntmps3
  go_wp2_with (first | (go_at_call 7; refine (alive_any _).mono ?_; rintro e w1 ⟨rfl, hb1⟩; have tok1 : True := trivial) | (go_at_call 8; have _t := tok1; (with_reducible refine (write_yes A0 c0 l0 _ (Kd.C_below hr0 hb1) hc0 (by omega) hm).mono ?_); rintro e w2 ⟨v2, rfl, ho2, hb2⟩; clear tok1; have tok2 : True := trivial) | (go_at_call 8; have _t := tok2; (with_reducible refine (write_yes A1 c1 l1 _ (Kd.C_below hr1 (bbelow hb1 hb2 hb1.size)) hc1 (by omega) hm1).mono ?_); rintro e w3 ⟨v3, rfl, ho3, hb3⟩; obtain ⟨A2, c2, rfl⟩ := Kd.R_slice ho2; obtain ⟨A3, c3, rfl⟩ := Kd.R_slice ho3; have hb4 := bbelow (bbelow hb1 hb2 hb1.size) hb3 (by have := hb1.size; have := hb2.size; omega); have hx2 := (Kd.R_reads' (Ob.below ho2 hb3)).2.2; have hx3 := (Kd.R_reads' ho3).2.2; clear ho2 ho3 hb1 hb2 hb3 tok2))
  have HF := Lib.hid (apart_fin l0 l1 (valid_of l0 hm hw0) (valid_of l1 hm1 hw1))
  have hcv2 := fun n => Kd.C_string (P := Try.prog) (src := 24) (dst := 9) (c := c2) Try.underlying24 Try.underlying5 Try.underlying9 (Kd.C_drewN hx2 n)
  have hcv3 := fun n => Kd.C_string (P := Try.prog) (src := 24) (dst := 9) (c := c3) Try.underlying24 Try.underlying5 Try.underlying9 (Kd.C_drewN hx3 n)
  go_quiet ((go_at_call 9; exact Calls.quiet_of ((same_any A0 c0 l0 A1 c1 l1 _ (Kd.C_drewN (Kd.C_below hr0 hb4) _) hc0 (Kd.C_drewN (Kd.C_below hr1 hb4) _) hc1 (by omega)).mono fun _ _ h => ⟨h.1, h.2.out⟩)))
  go_wp2
  go_ret
  exact ⟨by rw [HF.out]; rfl, pw_below_drewN hb4 _⟩
theorem wf_word {x : Int} (h : (Lit.int .u64 x).wf = true) : IsWord x := by
  have hmin : IntKind.u64.min = 0 := rfl
  have hmax : IntKind.u64.max = 18446744073709551615 := rfl
  simp only [Lit.wf, Bool.and_eq_true, decide_eq_true_eq] at h
  exact ⟨by omega, by omega⟩
theorem wf_byte {x : Int} (h : (Lit.int .u8 x).wf = true) : IsByte x := by
  have hmin : IntKind.u8.min = 0 := rfl
  have hmax : IntKind.u8.max = 255 := rfl
  simp only [Lit.wf, Bool.and_eq_true, decide_eq_true_eq] at h
  exact ⟨by omega, by omega⟩
/-- **BackupApart**, for any two slices. -/
theorem apart_any (A0 : Option Addr) (c0 : Nat) (l0 : List Int) (A1 : Option Addr) (c1 : Nat) (l1 : List Int) (w : World) (hr0 : Kd.C (Kd.int .u64) w A0 l0.length l0) (hc0 : l0.length ≤ c0) (h0 : l0.length * 8 ≤ 140737488351232) (hw0 : ∀ x ∈ l0, IsWord x) (hr1 : Kd.C (Kd.int .u64) w A1 l1.length l1) (hc1 : l1.length ≤ c1) (h1 : l1.length * 8 ≤ 140737488351232) (hw1 : ∀ x ∈ l1, IsWord x) :
    Calls Try.prog 3 #[.slice A0 l0.length c0, .slice A1 l1.length c1] w (TrueB w) := by
  by_cases hl : 1000 < l0.length ∨ 1000 < l1.length
  · exact apart_long A0 c0 l0 A1 c1 l1 w (by omega) (by omega) hl
  · cases hm : mayB l0.length with
    | false => exact apart_one A0 c0 l0 A1 c1 l1 w (by omega) (by omega) hr0 hc0 hr1 hc1 hm
    | true =>
      cases hm1 : mayB l1.length with
      | false => exact apart_two A0 c0 l0 A1 c1 l1 w (by omega) (by omega) hr0 hc0 hr1 hc1 hm hm1
      | true => exact apart_both A0 c0 l0 A1 c1 l1 w (by omega) (by omega) hr0 hc0 hr1 hc1 hm hm1 hw0 hw1
theorem backupApart_row (A0 : Option Addr) (c0 : Nat) (l0 : List Int) (A1 : Option Addr) (c1 : Nat) (l1 : List Int) (w : World) (hr0 : Kd.C (Kd.int .u64) w A0 l0.length l0) (hc0 : l0.length ≤ c0) (h0 : l0.length * 8 ≤ 140737488351232) (hw0 : ∀ x ∈ l0, (Lit.int .u64 x).wf = true) (hr1 : Kd.C (Kd.int .u64) w A1 l1.length l1) (hc1 : l1.length ≤ c1) (h1 : l1.length * 8 ≤ 140737488351232) (hw1 : ∀ x ∈ l1, (Lit.int .u64 x).wf = true) :
    Calls Try.prog 3 #[.slice A0 l0.length c0, .slice A1 l1.length c1] w (TrueB w) :=
  apart_any A0 c0 l0 A1 c1 l1 w hr0 hc0 h0 (fun x hx => wf_word (hw0 x hx)) hr1 hc1 h1 (fun x hx => wf_word (hw1 x hx))
end Go.Proofs.Ytanelaajdajjnaa
