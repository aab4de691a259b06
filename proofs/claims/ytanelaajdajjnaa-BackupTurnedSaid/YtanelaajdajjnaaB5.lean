/- Contracts of sum.Bytes and of backup's run. Conditions: none. -/
import Derived.Test.YtanelaajdajjnaaB4
import Derived.Test.YtanelaajdajjnaaM2
namespace Go.Proofs.Ytanelaajdajjnaa
open Go.RowKit Go.Proofs.YtanelaajdajjnaaW.PrintWords Go.Proofs.YtanelaajdajjnaaW.PrintLast Go.Proofs.YtanelaajdajjnaaW.PrintMore
set_option linter.unusedVariables false
set_option linter.unusedSimpArgs false
open PBackupReads
theorem step_round (k : Nat) (x : Int) (i : Nat) (hi : i < 8) : sum_step.l0 (k + 1) x i = sum_step.l0 k (bitT x) ((i + 1 : Nat) : Int) := by
  have hw : wrap64 ((i : Int) + 1) = ((i + 1 : Nat) : Int) := by unfold wrap64; omega
  simp only [sum_step.l0, bitT]
  rw [if_pos (by omega), hw]
  split <;> rfl
theorem step_rounds : ∀ (n i : Nat) (x : Int), i + n = 8 → sum_step.l0 (n + 1) x i = some (bitsT n x)
  | 0, i, x, h => by simp only [sum_step.l0, bitsT]; rw [if_neg (by omega)]
  | n + 1, i, x, h => by rw [step_round (n + 1) x i (by omega)]; exact step_rounds n (i + 1) (bitT x) (by omega)
theorem step_is (x c : Int) : sum_step.f 9 x c = some (stepT x c) := step_rounds 8 0 _ rfl
theorem step_any (x c : Int) (w : World) : Calls Try.prog 31 #[.int .u32 x, .int .u8 c] w fun e w' => e = .returned (.int .u32 (stepT x c)) ∧ Drawn0 w w' :=
  sum_step.calls 9 x c _ w (step_is x c)
set_option maxHeartbeats 1000000 in
theorem bytes_any (A : Option Addr) (c : Nat) (l : List Int) (w : World) (hr : Kd.C (Kd.int .u8) w A l.length l) (hc : l.length ≤ c) (hn : l.length ≤ 140737488351232) :
    Calls Try.prog 19 #[.slice A l.length c] w fun e w' => e = .returned (.int .u32 (bits .xor .u32 4294967295 (crcAt l))) ∧ Drawn0 w w' := by
  go_enter Try.func19, Try.ntmps19
  go_wp2
  go_loopg [3, 8] (l.length + 1) (fun kq v3 v8 w' => ∃ (i : Nat), v3 = .int .u32 (crcAt (l.take i)) ∧ v8 = .int .i64 i ∧ Aside0 (kq + i = l.length + 1 ∧ 0 < kq) ∧ Drawn0 w w')
  case atStart => exact ⟨0, rfl, rfl, ⟨by omega, by omega⟩, Drawn0.refl _⟩
  case round =>
    obtain ⟨i, rfl, rfl, HA, HD⟩ := hrel
    obtain ⟨nd, rfl⟩ := HD.out
    by_cases hlt : i < l.length
    · have b0 : decide (i < l.length) = true := by simp [hlt]
      obtain ⟨ad, rfl, hcell⟩ := Kd.at_int hr (i : Int) (by omega) (by omega)
      simp only [rd, Int.toNat_natCast] at hcell
      obtain ⟨x, hx⟩ : ∃ x, x = l.getD i 0 := ⟨_, rfl⟩
      rw [← hx] at hcell
      have hs : crcAt (l.take (i + 1)) = stepT (crcAt (l.take i)) x := by
        rw [List.take_succ_eq_append_getElem hlt, crcAt_snoc, hx]; simp [List.getD_eq_getElem?_getD, hlt]
      have HS := Lib.hid hs
      clear hx hs
      go_wp2_with (go_at_call 31; refine (step_any _ _ _).mono ?_; rintro e w1 ⟨rfl, hd⟩; obtain ⟨nd2, rfl⟩ := hd.out; clear hd)
      go_roundg (gk - 1)
      case measure => have := HA.out; omega
      case rel => exact ⟨i + 1, by rw [HS.out], by go_num, ⟨by have := HA.out; omega, by have := HA.out; omega⟩, ⟨⟨_, rfl⟩⟩⟩
    · have b0 : decide (i < l.length) = false := by simp; omega
      have ht : crcAt (l.take i) = crcAt l := by rw [List.take_of_length_le (by omega)]
      have HT := Lib.hid ht
      clear ht
      go_wp2_with fail
      go_ret
      exact ⟨by rw [HT.out]; rfl, ⟨⟨_, rfl⟩⟩⟩
/-- What run's closure answers. -/
theorem other_any (z : Bool) (x : Int) (B : Nat) (w : World) (hb : w.heap[B]? = some (.cells #[.bool z] 4 (0, 0))) :
    Calls Try.prog 29 #[.int .u64 x, .pointer (some ⟨B, 0, none⟩)] w fun e w' => e = .returned (.bool (!((x == 0) == z))) ∧ w = w' := by
  have hc := cell_of_blk hb
  go_enter Try.func29, Try.ntmps29
  go_wp2
  go_ret
  exact ⟨rfl, rfl⟩
/-- What IndexFunc tells of a run. -/
def idxV (z : Bool) (l : List Int) : Int := if runL z l < l.length then (runL z l : Int) else -1
set_option maxHeartbeats 1000000 in
theorem index_any (z : Bool) (B : Nat) (A : Option Addr) (c : Nat) (l : List Int) (w : World) (hr : Kd.C (Kd.int .u64) w A l.length l) (hc : l.length ≤ c) (hn : l.length ≤ 140737488351232) (hb : w.heap[B]? = some (.cells #[.bool z] 4 (0, 0))) :
    Calls Try.prog 30 #[.slice A l.length c, .func (.func 29) #[] #[.pointer (some ⟨B, 0, none⟩)]] w fun e w' => e = .returned (.int .i64 (idxV z l)) ∧ w = w' := by
  go_enter Try.func30, Try.ntmps30
  go_wp2
  go_loopg [8] (l.length + 1) (fun kq v8 w' => ∃ (i : Nat), v8 = .int .i64 i ∧ Aside0 (kq + i = l.length + 1 ∧ 0 < kq ∧ i ≤ runL z l) ∧ w' = w)
  case atStart => exact ⟨0, rfl, ⟨by omega, by omega, by omega⟩, rfl⟩
  case round =>
    obtain ⟨i, rfl, HA, rfl⟩ := hrel
    by_cases hlt : i < l.length
    · have b0 : decide (i < l.length) = true := by simp [hlt]
      obtain ⟨ad, rfl, hcell⟩ := Kd.at_int hr (i : Int) (by omega) (by omega)
      simp only [rd, Int.toNat_natCast] at hcell
      have hat := runL_at z l i hlt HA.out.2.2
      rw [show l[i] = l.getD i 0 by simp [List.getD_eq_getElem?_getD, hlt]] at hat
      obtain ⟨x, hx⟩ : ∃ x, x = l.getD i 0 := ⟨_, rfl⟩
      rw [← hx] at hcell hat
      clear hx
      cases hq : ((x == 0) == z) with
      | true =>
        rw [hq, if_pos rfl] at hat
        have HT := Aside0.mk hat
        have HQ := Lib.hid (show (!((x == 0) == z)) = false by rw [hq]; rfl)
        clear hat hq
        go_wp2_with (go_at_call 29; refine (other_any z x B _ hb).mono ?_; rw [HQ.out]; rintro e w1 ⟨rfl, rfl⟩)
        go_roundg (gk - 1)
        case measure => have := HA.out; omega
        case rel => exact ⟨i + 1, by go_num, ⟨by have := HA.out; omega, by have := HA.out; omega, HT.out⟩, rfl⟩
      | false =>
        rw [hq] at hat
        simp only [Bool.false_eq_true, if_false] at hat
        have HT := Lib.hid hat
        have HQ := Lib.hid (show (!((x == 0) == z)) = true by rw [hq]; rfl)
        clear hat hq
        go_wp2_with (go_at_call 29; refine (other_any z x B _ hb).mono ?_; rw [HQ.out]; rintro e w1 ⟨rfl, rfl⟩)
        go_ret
        exact ⟨by rw [show idxV z l = i by unfold idxV; rw [HT.out, if_pos hlt]]; rfl, rfl⟩
    · have b0 : decide (i < l.length) = false := by simp; omega
      go_wp2_with fail
      go_ret
      exact ⟨by rw [show idxV z l = -1 by unfold idxV; rw [if_neg (by have := HA.out; omega)]]; rfl, rfl⟩
theorem cell_alloc_new (w : World) (v : Value) (T : TypeId) : (w.alloc (.cells #[v] T (0, 0))).heap[w.heap.size]? = some (.cells #[v] T (0, 0)) := blk_new w _
set_option maxHeartbeats 1000000 in
theorem run_any (z : Bool) (A : Option Addr) (c : Nat) (l : List Int) (w : World) (hr : Kd.C (Kd.int .u64) w A l.length l) (hc : l.length ≤ c) (hn : l.length ≤ 140737488351232) :
    Calls Try.prog 17 #[.slice A l.length c, .bool z] w fun e w' => e = .returned (.int .i64 (runL z l)) ∧ Below w.heap.size w w' := by
  have hle := runL_le z l
  have hr2 := Kd.C_below hr (below_alloc (Below.refl w.heap.size w) (.cells #[.bool z] 4 (0, 0)))
  by_cases hlt : runL z l < l.length
  · have hq : idxV z l = (runL z l : Int) := if_pos hlt
    have HQ := Lib.hid hq
    clear hq
    go_enter Try.func17, Try.ntmps17
    go_wp2_with (go_at_call 30; refine (index_any z w.heap.size A c l _ hr2 hc hn (blk_new w _)).mono ?_; rw [HQ.out]; rintro e w1 ⟨rfl, rfl⟩)
    go_ret
    exact ⟨rfl, below_alloc (Below.refl _ _) _⟩
  · have hq : idxV z l = -1 := if_neg hlt
    have HQ := Lib.hid hq
    have h2 : (l.length : Int) = (runL z l : Int) := by omega
    have H2 := Lib.hid h2
    clear hq h2
    go_enter Try.func17, Try.ntmps17
    go_wp2_with (go_at_call 30; refine (index_any z w.heap.size A c l _ hr2 hc hn (blk_new w _)).mono ?_; rw [HQ.out]; rintro e w1 ⟨rfl, rfl⟩)
    go_ret
    exact ⟨by rw [← H2.out]; rfl, below_alloc (Below.refl _ _) _⟩
theorem run_any2 (z : Bool) (A : Option Addr) (c n : Nat) (l : List Int) (w : World) (hr : Kd.C (Kd.int .u64) w A l.length l) (e : l.length = n) (hc : n ≤ c) (hn : n ≤ 140737488351232) :
    Calls Try.prog 17 #[.slice A n c, .bool z] w fun e w' => e = .returned (.int .i64 (runL z l)) ∧ Below w.heap.size w w' := by
  subst e
  exact run_any z A c l w hr hc hn
theorem digit_or (n : Int) (h : 0 ≤ n) (h2 : n < 9223372036854775808) : bits .or .i64 (bits .and .i64 n 127) 128 % 256 = n % 128 + 128 := by
  have h1 : bits .and .i64 n 127 = n % 128 := by
    have := bits_mask .i64 63 (by decide) wraps_i64 7 (by decide) n h (by omega)
    simpa using this
  have h3 := bits_join .i64 63 (by decide) wraps_i64 7 128 (n % 128) (by decide) (by decide) (by decide) (by omega) (by omega) (by omega)
  have hc : bits .or .i64 (n % 128) 128 = bits .or .i64 128 (n % 128) := by simp [bits, BitVec.or_comm]
  rw [h1, hc, h3]; omega
end Go.Proofs.Ytanelaajdajjnaa
