/- Contract of the backup reader's number. Conditions: none. -/
import Derived.Test.YtanelaajdajjnaaB1
import Derived.Test.YtanelaajdajjnaaM1
import Derived.Outline
namespace Go.Proofs.Ytanelaajdajjnaa
open Go.RowKit Go.Proofs.YtanelaajdajjnaaW.PrintWords Go.Proofs.YtanelaajdajjnaaW.PrintLast Go.Proofs.YtanelaajdajjnaaW.PrintMore
set_option linter.unusedVariables false
set_option linter.unusedSimpArgs false
/-- What number comes to: a number and the bytes behind it, or it gives up. -/
def NumPost (w0 w : World) (B : Nat) : Option (Int × List Int) → Ending → World → Prop
  | some (n, r) => fun e w' => e = .returned (.int .i64 n) ∧ Rd w0 w' B r ∧ Frm (· = B) w w'
  | none => fun e w' => e = .panicked crpt ∧ Frm (· = B) w w'
set_option maxHeartbeats 400000 in
theorem number_any (B : Nat) (l : List Int) (hB : ∀ c ∈ l, IsByte c) (w0 w : World) (hR : Rd w0 w B l) :
    Calls Try.prog 23 #[.pointer (some ⟨B, 0, none⟩)] w (NumPost w0 w B (numO 9 0 0 l)) := by
  go_enter Try.func23, Try.ntmps23
  go_wp2
  go_loopg [3, 6] 9 (fun kq v3 v6 w' => ∃ (i : Nat) (n : Int) (b : List Int), v3 = .int .i64 n ∧ v6 = .int .i64 i ∧ Aside0 (kq + i = 9 ∧ (∀ c ∈ b, IsByte c) ∧ 0 ≤ n ∧ n < 2 ^ (7 * i) ∧ numO kq i n b = numO 9 0 0 l) ∧ Rd w0 w' B b ∧ Frm (· = B) w w')
  case atStart => exact ⟨0, 0, l, rfl, rfl, ⟨rfl, hB, by decide, by decide, rfl⟩, hR, Frm.refl _ _⟩
  case round =>
    obtain ⟨i, n, b, rfl, rfl, HA, hRb, hF⟩ := hrel
    cases gk with
    | zero =>
      have hi : i = 9 := by have := HA.out; omega
      have hE := Lib.hid HA.out.2.2.2.2.symm
      have c0 : decide ((i : Int) < 9) = false := by simp; omega
      clear hi
      go_wp2_with fail
      refine bodyPost_panic rfl ?_
      rw [hE.out]
      exact ⟨rfl, hF⟩
    | succ k =>
      have hlt : i < 9 := by have := HA.out; omega
      cases b with
      | nil =>
        have hE := Lib.hid HA.out.2.2.2.2.symm
        go_wp2_with (go_at_call 22; refine (take_no B [] 1 (by simp) w0 _ hRb).mono ?_; rintro e w1 ⟨rfl, rfl⟩)
        refine bodyPost_panic rfl ?_
        rw [hE.out]
        exact ⟨rfl, hF⟩
      | cons c r =>
        have hc := HA.out.2.1 c (by simp)
        have hc0 : 0 ≤ c := hc.1
        have hc1 : c ≤ 255 := hc.2
        have hr : ∀ x ∈ r, IsByte x := fun x hx => HA.out.2.1 x (by simp [hx])
        have HR := Aside0.mk hr
        clear hc hr
        have hn := HA.out.2.2
        have e1 := and127 c hc0 hc1
        have e2 := digit_shift c i hc0 (by omega)
        have e3 := digit_join n c i hc0 (by omega) hn.1 hn.2.1
        have e4 := Lib.hid (digit_lt n c i hc0 hn.1 hn.2.1)
        have hE := Lib.hid hn.2.2.symm
        clear hn
        by_cases h128 : c < 128
        · by_cases hz : i = 0 ∨ c ≠ 0
          · have hE2 : numO 9 0 0 l = some (n + c % 128 * 2 ^ (7 * i), r) := by rw [hE.out]; simp [numO, h128, hz]
            have HE := Lib.hid hE2
            clear hE2 hE
            by_cases hi0 : i = 0
            · have b1 : ((i : Int) == 0) = true := by simp [hi0]
              clear hz hi0
              go_wp2_with (first | (go_at_call 22; refine (take_one B c r w0 _ hRb).mono ?_; rintro e w1 ⟨ad, rfl, hC1, hR1, hF1⟩) | (go_at_call 21; refine (must_yes _).mono ?_; rintro e w' ⟨rfl, rfl⟩))
              go_ret
              rw [HE.out]
              exact ⟨rfl, hR1, hF.trans hF1 (fun _ _ h => h)⟩
            · have b1 : ((i : Int) == 0) = false := by simp [hi0]
              have b2 : (c != 0) = true := by simp; omega
              have b3 : (c == 0) = false := by simp; omega
              clear hz hi0
              go_wp2_with (first | (go_at_call 22; refine (take_one B c r w0 _ hRb).mono ?_; rintro e w1 ⟨ad, rfl, hC1, hR1, hF1⟩) | (go_at_call 21; refine (must_yes _).mono ?_; rintro e w' ⟨rfl, rfl⟩))
              go_ret
              rw [HE.out]
              exact ⟨rfl, hR1, hF.trans hF1 (fun _ _ h => h)⟩
          · have hE2 : numO 9 0 0 l = none := by rw [hE.out]; simp [numO, h128, hz]
            have HE := Lib.hid hE2
            clear hE2 hE
            have b1 : ((i : Int) == 0) = false := by simp; omega
            have b2 : (c != 0) = false := by simp; omega
            have b3 : (c == 0) = true := by simp; omega
            clear hz
            go_wp2_with (first | (go_at_call 22; refine (take_one B c r w0 _ hRb).mono ?_; rintro e w1 ⟨ad, rfl, hC1, hR1, hF1⟩) | (go_at_call 21; refine (must_no _).mono ?_; rintro e w' ⟨rfl, rfl⟩))
            refine bodyPost_panic rfl ?_
            rw [HE.out]
            exact ⟨rfl, hF.trans hF1 (fun _ _ h => h)⟩
        · have hE2 : numO k (i + 1) (n + c % 128 * 2 ^ (7 * i)) r = numO 9 0 0 l := by rw [hE.out]; simp [numO, h128]
          have HE := Lib.hid hE2
          clear hE2 hE
          go_wp2_with (first | (go_at_call 22; refine (take_one B c r w0 _ hRb).mono ?_; rintro e w1 ⟨ad, rfl, hC1, hR1, hF1⟩) | (go_at_call 21; refine (must_yes _).mono ?_; rintro e w' ⟨rfl, rfl⟩))
          go_roundg k
          case measure => omega
          case rel => exact ⟨i + 1, _, r, rfl, by go_num, ⟨by have := HA.out.1; omega, HR.out, e4.out.1, e4.out.2, HE.out⟩, hR1, hF.trans hF1 (fun _ _ h => h)⟩
end Go.Proofs.Ytanelaajdajjnaa
