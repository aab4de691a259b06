/- The document's example for backups; how many words aren't 0; the document's functions as contracts. Conditions: none. -/
import Derived.Test.YtanelaajdajjnaaM8
namespace Go.Proofs.Ytanelaajdajjnaa
open Go.RowKit Go.Proofs.YtanelaajdajjnaaW.PrintWords Go.Proofs.YtanelaajdajjnaaW.PrintLast Go.Proofs.YtanelaajdajjnaaW.PrintMore
set_option linter.unusedVariables false
set_option linter.unusedSimpArgs false
open PBackupReads
theorem reads_new (w : World) (T : TypeId) (k : IntKind) (xs : List Int) (hm : xs.length ≤ 9223372036854775807) : Kd.C (Kd.int k) (w.alloc (.cells (nums k xs).toArray T)) (some ⟨w.heap.size, 0, none⟩) xs.length xs := by
  refine Kd.C_of_reads (d := (0 : Int)) ⟨rfl, hm, fun _ => ⟨_, rfl, fun j hj => ?_⟩⟩
  rw [add_plain]
  have hb := blk_new w (.cells (nums k xs).toArray T)
  unfold World.cell?
  rw [hb]
  simp [nums, List.getD_eq_getElem?_getD, hj]
def eight : List Int := [0, 0, 0, 0, 0, 0, 0, 0]
def eightB : List Int := fullB eight
theorem eightB_len : eightB.length = 10 := by
  unfold eightB
  rw [fullB_form]
  rfl
theorem eightB_six : eightB.take 6 = [84, 82, 78, 67, 8, 8] := by
  unfold eightB
  rw [fullB_form]
  rfl
theorem mk8 (w : World) : (Instr.makeSlice 22 (.int .i64 8) (.int .i64 8)).run Try.prog w = .ok (.slice (some ⟨w.heap.size, 0, none⟩) 8 8) (w.alloc (.cells (nums .u64 eight).toArray 41)) := by kernel_rfl
theorem eight_ob (W W2 : World) (v : Value) (h : Ob W W2 v (fullB eight)) : ∃ A c, v = .slice A 10 c ∧ 10 ≤ c ∧ Kd.C (Kd.int .u8) W2 A 6 [84, 82, 78, 67, 8, 8] := by
  obtain ⟨A, c, rfl⟩ := Kd.R_slice h
  obtain ⟨_, h2, h3⟩ := Kd.R_reads' h
  have hl : (fullB eight).length = 10 := eightB_len
  have h4 := Kd.C_take h3 (m := 6) (by omega)
  have ht : (fullB eight).take 6 = [84, 82, 78, 67, 8, 8] := eightB_six
  rw [ht] at h4
  exact ⟨A, c, by rw [hl], by omega, h4⟩
theorem write_eight (w : World) : Calls Try.prog 8 #[.slice (some ⟨w.heap.size, 0, none⟩) 8 8] (w.alloc (.cells (nums .u64 eight).toArray 41)) fun e w' => ∃ A c, e = .returned (.tuple #[.slice A 10 c, .int .i64 0]) ∧ 10 ≤ c ∧ Kd.C (Kd.int .u8) w' A 6 [84, 82, 78, 67, 8, 8] ∧ Below w.heap.size w w' := by
  have hC : Kd.C (Kd.int .u64) (w.alloc (.cells (nums .u64 eight).toArray 41)) (some ⟨w.heap.size, 0, none⟩) eight.length eight := reads_new w 41 .u64 eight (by decide)
  refine (write_yes (some ⟨w.heap.size, 0, none⟩) 8 eight _ hC (by decide) (by decide) rfl).mono ?_
  rintro e w' ⟨v, rfl, ho, hb⟩
  obtain ⟨A, c, rfl, h1, h2⟩ := eight_ob _ _ _ ho
  exact ⟨A, c, rfl, h1, h2, (below_alloc (Below.refl _ _) _).trans (hb.mono (by simp))⟩
set_option maxHeartbeats 1000000 in
theorem alive_any (w : World) : Calls Try.prog 7 #[] w fun e w' => e = .returned (.bool true) ∧ Below w.heap.size w w' := by
  have hmk := mk8 w
  have HW := Lib.hid (write_eight w)
  have hst : ((strOfNums [84, 82, 78, 67, 8, 8]).toList == [84, 82, 78, 67, 8, 8]) = true := by rw [ByteArray.toList_eq, strOfNums_data]; rfl
  generalize w.alloc (.cells (nums .u64 eight).toArray 41) = W1 at *
  go_enter Try.func7, Try.ntmps7
  go_wp2_with (go_at_call 8; refine HW.out.mono ?_; rintro e w1 ⟨A, c, rfl, h10, hC, hb⟩; have hcv := Kd.C_string (P := Try.prog) (src := 24) (dst := 9) (c := c) Try.underlying24 Try.underlying5 Try.underlying9 hC)
  go_ret
  exact ⟨rfl, hb⟩
theorem words_at : ∀ (m i : Nat) (l0 l1 : List Int), l0.length = i + m → l1.length = i + m → l0.length ≤ 9223372036854775806 → l0.take i = l1.take i → Evt (fun k => trencherref12_Words.l0 k l0 l1 i) (decide (l0 = l1))
  | 0, i, l0, l1, h0, h1, _, ht => by
    refine Evt.step (g' := fun _ => some _) (fun k => ?_) Evt.pure
    simp only [trencherref12_Words.l0]
    rw [if_neg (by omega)]
    rw [List.take_of_length_le (by omega), List.take_of_length_le (by omega)] at ht
    simp [ht]
  | m + 1, i, l0, l1, h0, h1, hb, ht => by
    have hi0 : i < l0.length := by omega
    have hi1 : i < l1.length := by omega
    by_cases he : l0[i] = l1[i]
    · have := words_at m (i + 1) l0 l1 (by omega) (by omega) hb (by rw [List.take_succ_eq_append_getElem hi0, List.take_succ_eq_append_getElem hi1, ht, he])
      refine Evt.step (fun k => ?_) this
      simp only [trencherref12_Words.l0]
      rw [if_pos (by omega), if_pos (by omega), if_pos (by omega)]
      simp only [rd, Int.toNat_natCast, List.getD_eq_getElem?_getD, List.getElem?_eq_getElem hi0, List.getElem?_eq_getElem hi1, Option.getD_some]
      rw [if_pos he, wrap_nat i (by omega)]
    · refine Evt.step (g' := fun _ => some _) (fun k => ?_) Evt.pure
      simp only [trencherref12_Words.l0]
      rw [if_pos (by omega), if_pos (by omega), if_pos (by omega)]
      simp only [rd, Int.toNat_natCast, List.getD_eq_getElem?_getD, List.getElem?_eq_getElem hi0, List.getElem?_eq_getElem hi1, Option.getD_some]
      rw [if_neg he]
      have : l0 ≠ l1 := fun e => he (by subst e; rfl)
      simp [this]
theorem words_is (l0 l1 : List Int) (hb : l0.length ≤ 9223372036854775806) : Evt (fun k => trencherref12_Words.f k l0 l1) (decide (l0 = l1)) := by
  by_cases hl : l0.length = l1.length
  · refine Evt.eq (fun k => ?_) (words_at l0.length 0 l0 l1 (by omega) (by omega) hb rfl)
    simp only [trencherref12_Words.f]
    rw [if_pos (by omega)]; rfl
  · refine Evt.eq (g' := fun _ => some _) (fun k => ?_) Evt.pure
    simp only [trencherref12_Words.f]
    rw [if_neg (by omega)]
    have : l0 ≠ l1 := fun e => hl (by rw [e])
    simp [this]
theorem same_any (A0 : Option Addr) (c0 : Nat) (l0 : List Int) (A1 : Option Addr) (c1 : Nat) (l1 : List Int) (w : World) (hr0 : Kd.C (Kd.int .u64) w A0 l0.length l0) (hc0 : l0.length ≤ c0) (hr1 : Kd.C (Kd.int .u64) w A1 l1.length l1) (hc1 : l1.length ≤ c1) (hb : l0.length ≤ 9223372036854775806) :
    Calls Try.prog 9 #[.slice A0 l0.length c0, .slice A1 l1.length c1] w fun e w' => e = .returned (.bool (decide (l0 = l1))) ∧ Drawn0 w w' := by
  obtain ⟨k, hk⟩ := (words_is l0 l1 hb).at_
  exact trencherref12_Words.calls k A0 c0 l0 A1 c1 l1 _ w hr0 hc0 hr1 hc1 hk
/-- What the document's Write answers. -/
def okW (l : List Int) : Bool := mayB l.length
theorem refwrite_any (A : Option Addr) (c : Nat) (l : List Int) (w : World) (hr : Kd.C (Kd.int .u64) w A l.length l) (hc : l.length ≤ c) (hw : ∀ x ∈ l, IsWord x) :
    Calls Try.prog 13 #[.slice A l.length c] w fun e w' => ∃ v, e = .returned (.tuple #[v, .bool (okW l)]) ∧ Kd.R (Kd.int .u8) 5 w' w.heap.size (fun _ => True) v (if okW l = true then fullB l else []) ∧ Below w.heap.size w w' := by
  cases h : okW l with
  | true =>
    have hm := (mayB_iff _).1 h
    obtain ⟨k, hk⟩ := (refWrite_yes l ⟨by omega, by omega, hm.2.2, hw⟩).at_
    exact trencherref33_Write.calls k A c l _ _ w hr hc hk
  | false =>
    obtain ⟨k, hk⟩ := (refWrite_no l (fun hm => by have := (mayB_iff (l.length : Int)).2 (by omega); unfold okW at h; rw [h] at this; exact absurd this (by simp))).at_
    exact trencherref33_Write.calls k A c l _ _ w hr hc hk
theorem refread_any (A : Option Addr) (c : Nat) (b : List Int) (w : World) (hr : Kd.C (Kd.int .u8) w A b.length b) (hc : b.length ≤ c) (hb : ∀ x ∈ b, IsByte x) (hl : b.length ≤ 1000000) :
    Calls Try.prog 11 #[.slice A b.length c] w fun e w' => ∃ v, e = .returned (.tuple #[v, .bool (readT b).2]) ∧ Kd.R (Kd.int .u64) 41 w' w.heap.size (fun _ => True) v (readT b).1 ∧ Below w.heap.size w w' := by
  obtain ⟨k, hk⟩ := (refRead_is b hb hl).at_
  exact trencherref33_Read.calls k A c b _ _ w hr hc hk
theorem refsum_any (A : Option Addr) (c : Nat) (b : List Int) (w : World) (hr : Kd.C (Kd.int .u8) w A b.length b) (hc : b.length ≤ c) (hl : b.length ≤ 1000000) :
    Calls Try.prog 12 #[.slice A b.length c] w fun e w' => e = .returned (.int .u32 (sumOf b)) ∧ Drawn0 w w' := by
  obtain ⟨k, hk⟩ := (crc_is b (by omega)).at_
  exact trencherref03_Bytes.calls k A c b _ w hr hc hk
end Go.Proofs.Ytanelaajdajjnaa
