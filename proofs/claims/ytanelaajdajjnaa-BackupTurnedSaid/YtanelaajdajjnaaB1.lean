/- Contracts of the backup reader's functions: must, take. Conditions: none. -/
import Derived.Test.YtanelaajdajjnaaBase
namespace Go.Proofs.Ytanelaajdajjnaa
open Go.RowKit Go.Proofs.YtanelaajdajjnaaW.PrintWords Go.Proofs.YtanelaajdajjnaaW.PrintLast Go.Proofs.YtanelaajdajjnaaW.PrintMore
set_option linter.unusedVariables false
set_option linter.unusedSimpArgs false

def crpt : List PanicEntry := [{ v := .iface 49 (.agg #[]), recovered := false }]
set_option maxHeartbeats 400000 in
theorem must_yes (w : World) : Calls Try.prog 21 #[.bool true] w fun e w' => e = .returned (.tuple #[]) ∧ w = w' := by
  go_enter Try.func21, Try.ntmps21
  go_wp2
  go_end0
  exact ⟨rfl, rfl⟩
set_option maxHeartbeats 400000 in
theorem must_no (w : World) : Calls Try.prog 21 #[.bool false] w fun e w' => e = .panicked crpt ∧ w = w' := by
  go_enter Try.func21, Try.ntmps21
  go_wp2
  simp [bodyPost, crpt]
/-- A reader in block B that has the bytes l still ahead (memory as it was at w0, but for what was made since). -/
structure Rd (w0 w : World) (B : Nat) (l : List Int) : Prop where
  has : ∃ A c, w.heap[B]? = some (.cells #[.slice A l.length c] 53 (0, 0)) ∧ l.length ≤ c ∧ l.length ≤ 140737488351232 ∧ Kd.C (Kd.int .u8) w0 A l.length l
  below : Below w0.heap.size w0 w
  base : w0.heap.size ≤ B
set_option maxHeartbeats 400000 in
theorem take_no (B : Nat) (l : List Int) (n : Nat) (hn : l.length < n) (w0 w : World) (h : Rd w0 w B l) :
    Calls Try.prog 22 #[.pointer (some ⟨B, 0, none⟩), .int .i64 n] w fun e w' => e = .panicked crpt ∧ w = w' := by
  obtain ⟨A, c, hb, hl, hc, hr⟩ := h.has
  have hcell := cell_of_blk hb
  have c0 : decide ((n : Int) ≤ (l.length : Int)) = false := by simp; omega
  have c1 : decide (n ≤ l.length) = false := by simp; omega
  go_enter Try.func22, Try.ntmps22
  go_wp2_with fail
  refine (must_no _).mono ?_
  rintro e w' ⟨rfl, rfl⟩
  exact bodyPost_panic rfl ⟨rfl, rfl⟩
set_option maxHeartbeats 400000 in
theorem take_yes (B : Nat) (l : List Int) (n : Nat) (hn : n ≤ l.length) (w0 w : World) (hR : Rd w0 w B l) :
    Calls Try.prog 22 #[.pointer (some ⟨B, 0, none⟩), .int .i64 n] w fun e w' => ∃ A, e = .returned (.slice A n n) ∧ Kd.C (Kd.int .u8) w0 A n (l.take n) ∧ Rd w0 w' B (l.drop n) ∧ Frm (· = B) w w' := by
  obtain ⟨A, c, hb, hl, hc, hr⟩ := hR.has
  have hcell := cell_of_blk hb
  have hf := free_of_blk hb 0
  have c0 : decide ((n : Int) ≤ (l.length : Int)) = true := by simp; omega
  have c1 : decide (n ≤ l.length) = true := by simp; omega
  have n0 : n ≤ c := by omega
  have hd := Lib.hid (Kd.C_drop (c := c) hr hn hl)
  have hlen : (l.drop n).length = l.length - n := by simp
  have HL := Lib.hid hlen
  clear hlen
  go_enter Try.func22, Try.ntmps22
  go_wp2_with fail
  refine (must_yes _).mono ?_
  rintro e w' ⟨rfl, rfl⟩
  go_wp2
  · have e1 : c = n := by assumption
    go_ret
    refine ⟨A, rfl, C_toNat (Kd.C_take hr hn) (by simp; omega), ⟨⟨A, 0, ?_, by rw [HL.out]; omega, by rw [HL.out]; omega, ?_⟩, hR.below.setCell hR.base _, hR.base⟩, (Frm.refl _ _).setCell _ _ (fun _ => rfl)⟩
    · rw [HL.out]; exact blk_setCell hb
    · have := hd.out; rwa [if_pos e1] at this
  · have e1 : ¬ c = n := by assumption
    go_ret
    refine ⟨A, rfl, C_toNat (Kd.C_take hr hn) (by simp; omega), ⟨⟨A.map (·.add n), c - n, ?_, by rw [HL.out]; omega, by rw [HL.out]; omega, ?_⟩, hR.below.setCell hR.base _, hR.base⟩, (Frm.refl _ _).setCell _ _ (fun _ => rfl)⟩
    · rw [HL.out]; exact blk_setCell hb
    · have := hd.out; rw [if_neg e1] at this; simpa [Kd.int, Kd.scalar] using this
theorem Rd.len {w0 w : World} {B : Nat} {l : List Int} (h : Rd w0 w B l) : l.length ≤ 140737488351232 := by obtain ⟨A, c, _, h1, h2, _⟩ := h.has; omega
theorem take_one (B : Nat) (c : Int) (r : List Int) (w0 w : World) (hR : Rd w0 w B (c :: r)) :
    Calls Try.prog 22 #[.pointer (some ⟨B, 0, none⟩), .int .i64 1] w fun e w' => ∃ ad, e = .returned (.slice (some ad) 1 1) ∧ w'.cell? ad = some (.int .u8 c) ∧ Rd w0 w' B r ∧ Frm (· = B) w w' := by
  refine (take_yes B (c :: r) 1 (by simp) w0 w hR).mono ?_
  rintro e w' ⟨A, rfl, hC, hR', hF⟩
  obtain ⟨ad, rfl, hc⟩ := Kd.at_int (xs := [c]) hC 0 (by omega) (by omega)
  refine ⟨ad, rfl, ?_, hR', hF⟩
  have := pw_cell_below hR'.below hc
  simpa [rd, Addr.add] using this
end Go.Proofs.Ytanelaajdajjnaa
