/- Contract of backup.Read, its last stages. Conditions: none. -/
import Derived.Test.YtanelaajdajjnaaB8
namespace Go.Proofs.Ytanelaajdajjnaa
open Go.RowKit Go.Proofs.YtanelaajdajjnaaW.PrintWords Go.Proofs.YtanelaajdajjnaaW.PrintLast Go.Proofs.YtanelaajdajjnaaW.PrintMore
set_option linter.unusedVariables false
set_option linter.unusedSimpArgs false
open PBackupReads
theorem equal_at : ∀ (m i : Nat) (l0 l1 : List Int), l0.length = i + m → l1.length = i + m → l0.length ≤ 9223372036854775806 → l0.take i = l1.take i → slices_Equal_byte_byte.l0 (m + 1) l0 l1 ((i + m : Nat) : Int) i = some (decide (l0 = l1))
  | 0, i, l0, l1, h0, h1, _, ht => by
    simp only [slices_Equal_byte_byte.l0]
    rw [if_neg (by omega)]
    rw [List.take_of_length_le (by omega), List.take_of_length_le (by omega)] at ht
    simp [ht]
  | m + 1, i, l0, l1, h0, h1, hb, ht => by
    have hw : wrap64 ((i : Int) + 1) = ((i + 1 : Nat) : Int) := by unfold wrap64; omega
    have hi0 : i < l0.length := by omega
    have hi1 : i < l1.length := by omega
    conv => lhs; unfold slices_Equal_byte_byte.l0
    rw [if_pos (by omega), if_pos (by omega), if_pos (by omega), if_pos (by omega)]
    simp only [rd, Int.toNat_natCast, List.getD_eq_getElem?_getD, List.getElem?_eq_getElem hi0, List.getElem?_eq_getElem hi1, Option.getD_some]
    by_cases he : l0[i] = l1[i]
    · rw [if_pos he, hw]
      have := equal_at m (i + 1) l0 l1 (by omega) (by omega) hb (by rw [List.take_succ_eq_append_getElem hi0, List.take_succ_eq_append_getElem hi1, ht, he])
      rw [show i + 1 + m = i + (m + 1) by omega] at this
      exact this
    · rw [if_neg he]
      have : l0 ≠ l1 := fun e => he (by subst e; rfl)
      simp [this]
theorem equal_any (A0 : Option Addr) (c0 : Nat) (l0 : List Int) (A1 : Option Addr) (c1 : Nat) (l1 : List Int) (r : Bool) (w : World) (hr0 : Kd.C (Kd.int .u8) w A0 l0.length l0) (hc0 : l0.length ≤ c0) (hr1 : Kd.C (Kd.int .u8) w A1 l1.length l1) (hc1 : l1.length ≤ c1) (h : decide (l0 = l1) = r ∧ l0.length ≤ 9223372036854775806) :
    Calls Try.prog 25 #[.slice A0 l0.length c0, .slice A1 l1.length c1] w fun e w' => e = .returned (.bool r) ∧ Drawn0 w w' := by
  refine slices_Equal_byte_byte.calls (l0.length + 1) A0 c0 l0 A1 c1 l1 r w hr0 hc0 hr1 hc1 ?_
  unfold slices_Equal_byte_byte.f
  by_cases hl : l0.length = l1.length
  · rw [if_pos (by omega)]
    have := equal_at l0.length 0 l0 l1 (by omega) (by omega) h.2 rfl
    rw [← h.1]
    simpa using this
  · rw [if_neg (by omega)]
    have : l0 ≠ l1 := fun e => hl (by rw [e])
    rw [← h.1]; simp [this]
/-- The words are stored in the result's cell. -/
theorem words_store {w W3 w4 : World} {v : Value} {out : List Int} (hS3 : RdS w W3) (hS4 : RdS w w4) (hO : Ow w W3 w4 v out) :
    Frm (fun k => w.heap.size ≤ k) w (w4.setCell ⟨w.heap.size, 0, none⟩ v) ∧ Ow w W3 (w4.setCell ⟨w.heap.size, 0, none⟩ v) v out ∧ RdS w (w4.setCell ⟨w.heap.size, 0, none⟩ v) ∧ (w4.setCell ⟨w.heap.size, 0, none⟩ v).heap[w.heap.size]? = some (.cells #[v] 22 (0, 0)) ∧ (∃ x, w4.cell? ⟨w.heap.size, 0, none⟩ = some x) ∧ w4.frozen? ⟨w.heap.size, 0, none⟩ = false := by
  obtain ⟨h1, ⟨x, hx⟩, ⟨y, hy⟩⟩ := hS4
  obtain ⟨g1, ⟨gx, hgx⟩, ⟨gy, hgy⟩⟩ := hS3
  have hlt := blk_lt_ hgy
  refine ⟨(Frm.of_below h1 _).setCell _ _ (fun h => Nat.le_refl _), Kd.R_step hO (fun k hk _ => Below.heap_setCell _ _ _ k (by simp; omega)), ⟨h1.setCell (Nat.le_refl _) _, ⟨_, blk_setCell hx⟩, ⟨y, blk_set_other hy (by simp)⟩⟩, blk_setCell hx, ⟨x, cell_of_blk hx⟩, free_of_blk hx 0⟩
theorem RdS.sz {w W : World} (h : RdS w W) : w.heap.size + 1 < W.heap.size := by
  obtain ⟨_, h⟩ := h.err
  exact blk_lt_ h
theorem read_end {w w2 W : World} {v y : Value} {out : List Int} {nd : Nat} (hsz : w.heap.size + 1 < (w2.drewN nd).heap.size) (hO : Kd.R (Kd.int .u64) 41 W w.heap.size (fun k => (w2.drewN nd).heap.size ≤ k) v out) (hb : Below w.heap.size w W)
    (hx : W.heap[w.heap.size]? = some (.cells #[v] 22 (0, 0))) (hy : W.heap[w.heap.size + 1]? = some (.cells #[y] 25 (0, 0))) :
    ((W.setCell ⟨w.heap.size, 0, none⟩ v).setCell ⟨w.heap.size + 1, 0, none⟩ (.int .i64 0)).heap[w.heap.size]? = some (.cells #[v] 22 (0, 0)) ∧
    ((W.setCell ⟨w.heap.size, 0, none⟩ v).setCell ⟨w.heap.size + 1, 0, none⟩ (.int .i64 0)).heap[w.heap.size + 1]? = some (.cells #[.int .i64 0] 25 (0, 0)) ∧
    Kd.R (Kd.int .u64) 41 ((W.setCell ⟨w.heap.size, 0, none⟩ v).setCell ⟨w.heap.size + 1, 0, none⟩ (.int .i64 0)) w.heap.size (fun k => w.heap.size ≤ k) v out ∧
    Below w.heap.size w ((W.setCell ⟨w.heap.size, 0, none⟩ v).setCell ⟨w.heap.size + 1, 0, none⟩ (.int .i64 0)) :=
  ⟨blk_set_other (blk_setCell hx) (by simp), blk_setCell (blk_set_other hy (by simp)), Kd.R_mono (Kd.R_step hO (fun k hk _ => (Below.heap_setCell _ _ _ k (by simp; omega)).trans (Below.heap_setCell _ _ _ k (by simp; omega)))) (fun k hk => by omega), (hb.setCell (Nat.le_refl _) _).setCell (by simp) _⟩
def ReadYes (w : World) (out : List Int) (e : Ending) (w' : World) : Prop := ∃ v, e = .returned (.tuple #[v, .int .i64 0]) ∧ Kd.R (Kd.int .u64) 41 w' w.heap.size (fun k => w.heap.size ≤ k) v out ∧ Below w.heap.size w w'
set_option maxRecDepth 20000 in
set_option maxHeartbeats 2000000 in
theorem read_words (A : Option Addr) (c : Nat) (b : List Int) (w : World) (hr : Kd.C (Kd.int .u8) w A b.length b) (hc : b.length ≤ c) (hn : b.length ≤ 140737488351232) (h4 : 4 ≤ b.length) (hbb : ∀ x ∈ b.drop 4, IsByte x) (hl : letB b = true) (m : Nat) (rest : List Int) (hN : numO 9 0 0 (b.drop 4) = some ((m : Int), rest)) (hm16 : m ≤ 16384) (hM : mayB m = true) (hbr : ∀ x ∈ rest, IsByte x) (hW : wordsO (rest.length + 1) m [] rest = none) :
    Calls Try.prog 10 #[.slice A b.length c] w (ReadNo w) := by
  have hmf : ∀ (fn : Fn) (first cap : Array Value) (w : World), (Instr.makeFunc fn first cap).run Try.prog w = .ok (.func fn first cap) w := fun _ _ _ _ => rfl
  have hRd := rw0_rd w A c b hr hc hn
  have hl' : ((strOfNums (b.take 4)).toList == [84, 82, 78, 67]) = true := hl
  have hm0 : (0 : Int) ≤ (m : Int) := by omega
  have HN := Lib.hid hN
  have HM := Lib.hid hM
  have HW := Lib.hid hW
  clear hN hM hW
  go_enter_defers Try.func10, Try.ntmps10
  go_wp2_with (first | (go_at_call 22; (with_reducible refine (take4_yes _ b h4 w (rw0 w A b.length c) hRd).mono ?_); rintro e w1 ⟨A1, rfl, hC1, hR1, hF1⟩; have hcv := Kd.C_string (P := Try.prog) (src := 24) (dst := 9) (c := 4) Try.underlying24 Try.underlying5 Try.underlying9 (Kd.C_below hC1 hR1.below); have hS1 := (rw0_s w A b.length c).step hF1 (fun k e => by omega); have tok1 : True := trivial) | (go_at_call 21; have _t := tok1; (with_reducible refine (must_yes _).mono ?_); rintro e w' ⟨rfl, rfl⟩; clear tok1; have tok2 : True := trivial) | (go_at_call 23; (with_reducible refine (number_any _ (b.drop 4) hbb w _ hR1).mono ?_); rw [HN.out]; rintro e w2 ⟨rfl, hR2, hF2⟩; have hS2 := hS1.step hF2 (fun k e => by omega); clear hR1 hS1 hF2 hF1 hC1 hcv) | (go_at_call 15; (with_reducible refine (may_any (m : Int) true _ hm0 HM.out).mono ?_); rintro e w' ⟨rfl, hd⟩; obtain ⟨nd, rfl⟩ := hd.out; have hS3 := hS2.drewN nd; have hR3 := hR2.drewN nd; clear hd hR2 hS2) | (go_at_call 21; have _t := tok2; (with_reducible refine (must_yes _).mono ?_); rintro e w' ⟨rfl, rfl⟩; clear tok2; have tok3 : True := trivial) | (go_at_call 24; (with_reducible refine (words_any _ rest hbr m hm16 w _ hR3).mono ?_); rw [HW.out]; rintro e w4 ⟨rfl, hF4⟩; have hS4 := hS3.step hF4 (fun k e => by omega)))
  exact door_no w _ hS4 _ rfl rfl
set_option maxRecDepth 20000 in
set_option maxHeartbeats 2000000 in
theorem read_other (A : Option Addr) (c : Nat) (b : List Int) (w : World) (hr : Kd.C (Kd.int .u8) w A b.length b) (hc : b.length ≤ c) (hn : b.length ≤ 140737488351232) (h4 : 4 ≤ b.length) (hbb : ∀ x ∈ b.drop 4, IsByte x) (hl : letB b = true) (m : Nat) (rest : List Int) (hN : numO 9 0 0 (b.drop 4) = some ((m : Int), rest)) (hm16 : m ≤ 16384) (hM : mayB m = true) (hbr : ∀ x ∈ rest, IsByte x) (out r : List Int) (hW : wordsO (rest.length + 1) m [] rest = some (out, r)) (hMO : mayB out.length = true) (hol : out.length ≤ 16384) (hfl : (fullB out).length ≤ 9223372036854775806) (hEQ : decide (fullB out = b) = false) :
    Calls Try.prog 10 #[.slice A b.length c] w (ReadNo w) := by
  have hmf : ∀ (fn : Fn) (first cap : Array Value) (w : World), (Instr.makeFunc fn first cap).run Try.prog w = .ok (.func fn first cap) w := fun _ _ _ _ => rfl
  have hRd := rw0_rd w A c b hr hc hn
  have hl' : ((strOfNums (b.take 4)).toList == [84, 82, 78, 67]) = true := hl
  have hm0 : (0 : Int) ≤ (m : Int) := by omega
  have HN := Lib.hid hN
  have HM := Lib.hid hM
  have HW := Lib.hid hW
  clear hN hM hW
  have HMO := Lib.hid hMO
  have Hol := Aside0.mk hol
  have HEQ := Lib.hid (And.intro hEQ (show (fullB out).length ≤ 9223372036854775806 from hfl))
  clear hMO hol hEQ
  go_enter_defers Try.func10, Try.ntmps10
  go_wp2_with (first | (go_at_call 22; (with_reducible refine (take4_yes _ b h4 w (rw0 w A b.length c) hRd).mono ?_); rintro e w1 ⟨A1, rfl, hC1, hR1, hF1⟩; have hcv := Kd.C_string (P := Try.prog) (src := 24) (dst := 9) (c := 4) Try.underlying24 Try.underlying5 Try.underlying9 (Kd.C_below hC1 hR1.below); have hS1 := (rw0_s w A b.length c).step hF1 (fun k e => by omega); have tok1 : True := trivial) | (go_at_call 21; have _t := tok1; (with_reducible refine (must_yes _).mono ?_); rintro e w' ⟨rfl, rfl⟩; clear tok1; have tok2 : True := trivial) | (go_at_call 23; (with_reducible refine (number_any _ (b.drop 4) hbb w _ hR1).mono ?_); rw [HN.out]; rintro e w2 ⟨rfl, hR2, hF2⟩; have hS2 := hS1.step hF2 (fun k e => by omega); clear hR1 hS1 hF2 hF1 hC1 hcv) | (go_at_call 15; (with_reducible refine (may_any (m : Int) true _ hm0 HM.out).mono ?_); rintro e w' ⟨rfl, hd⟩; obtain ⟨nd, rfl⟩ := hd.out; have hS3 := hS2.drewN nd; have hR3 := hR2.drewN nd; clear hd hR2 hS2) | (go_at_call 21; have _t := tok2; (with_reducible refine (must_yes _).mono ?_); rintro e w' ⟨rfl, rfl⟩; clear tok2; have tok3 : True := trivial) | (go_at_call 24; (with_reducible refine (words_any _ rest hbr m hm16 w _ hR3).mono ?_); rw [HW.out]; rintro e w4 ⟨v4, rfl, hO4, hR4, hF4⟩; have hS4 := hS3.step hF4 (fun k e => by omega); have hsz := RdS.sz hS3; obtain ⟨A4, c4, rfl⟩ := Kd.R_slice hO4; obtain ⟨hF5, hO5, hS5, hx5, ⟨x5, hcx⟩, hfx⟩ := words_store hS3 hS4 hO4; clear hO4 hR4 hF4 hS4 hS3 hR3) | (go_at_call 8; (with_reducible refine (write_yes A4 c4 out _ (Kd.R_reads' hO5).2.2 (Kd.R_reads' hO5).2.1 (by have := Hol.out; omega) HMO.out).mono ?_); rintro e w6 ⟨v6, rfl, hO6, hB6⟩; obtain ⟨A6, c6, rfl⟩ := Kd.R_slice hO6; have hS6 := hS5.step (Frm.of_below hB6 (fun _ => False)) (fun k e => e.elim); have hO7 := Kd.R_below hO5 hB6; have hx6 := blk_below hx5 hB6; have hE1 := (Kd.R_reads' hO6).2.2; have hE2 := (Kd.R_reads' hO6).2.1; clear hO5 hS5 hx5 hcx hfx hB6 hO6) | (go_at_call 25; (with_reducible refine (equal_any A6 c6 (fullB out) A c b false _ hE1 hE2 (Kd.C_below hr hS6.below) hc HEQ.out).mono ?_); rintro e w7 ⟨rfl, hd⟩; obtain ⟨nd7, rfl⟩ := hd.out; clear hd; have hS7 := hS6.drewN nd7; have hc7 := cell_of_blk (blk_drewN hx6 (n := nd7)); have hf7 := free_of_blk (blk_drewN hx6 (n := nd7)) 0; obtain ⟨yy, hy7⟩ := hS7.err; have hc8 := cell_of_blk hy7; have hf8 := free_of_blk hy7 0) | (go_at_call 21; have _t := tok3; (with_reducible refine (must_no _).mono ?_); rintro e w' ⟨rfl, rfl⟩))
  exact door_no w _ hS7 _ rfl rfl
set_option maxRecDepth 20000 in
set_option maxHeartbeats 2000000 in
theorem read_ok (A : Option Addr) (c : Nat) (b : List Int) (w : World) (hr : Kd.C (Kd.int .u8) w A b.length b) (hc : b.length ≤ c) (hn : b.length ≤ 140737488351232) (h4 : 4 ≤ b.length) (hbb : ∀ x ∈ b.drop 4, IsByte x) (hl : letB b = true) (m : Nat) (rest : List Int) (hN : numO 9 0 0 (b.drop 4) = some ((m : Int), rest)) (hm16 : m ≤ 16384) (hM : mayB m = true) (hbr : ∀ x ∈ rest, IsByte x) (out r : List Int) (hW : wordsO (rest.length + 1) m [] rest = some (out, r)) (hMO : mayB out.length = true) (hol : out.length ≤ 16384) (hfl : (fullB out).length ≤ 9223372036854775806) (hEQ : decide (fullB out = b) = true) :
    Calls Try.prog 10 #[.slice A b.length c] w (ReadYes w out) := by
  have hmf : ∀ (fn : Fn) (first cap : Array Value) (w : World), (Instr.makeFunc fn first cap).run Try.prog w = .ok (.func fn first cap) w := fun _ _ _ _ => rfl
  have hRd := rw0_rd w A c b hr hc hn
  have hl' : ((strOfNums (b.take 4)).toList == [84, 82, 78, 67]) = true := hl
  have hm0 : (0 : Int) ≤ (m : Int) := by omega
  have HN := Lib.hid hN
  have HM := Lib.hid hM
  have HW := Lib.hid hW
  clear hN hM hW
  have HMO := Lib.hid hMO
  have Hol := Aside0.mk hol
  have HEQ := Lib.hid (And.intro hEQ (show (fullB out).length ≤ 9223372036854775806 from hfl))
  clear hMO hol hEQ
  go_enter_defers Try.func10, Try.ntmps10
  go_wp2_with (first | (go_at_call 22; (with_reducible refine (take4_yes _ b h4 w (rw0 w A b.length c) hRd).mono ?_); rintro e w1 ⟨A1, rfl, hC1, hR1, hF1⟩; have hcv := Kd.C_string (P := Try.prog) (src := 24) (dst := 9) (c := 4) Try.underlying24 Try.underlying5 Try.underlying9 (Kd.C_below hC1 hR1.below); have hS1 := (rw0_s w A b.length c).step hF1 (fun k e => by omega); have tok1 : True := trivial) | (go_at_call 21; have _t := tok1; (with_reducible refine (must_yes _).mono ?_); rintro e w' ⟨rfl, rfl⟩; clear tok1; have tok2 : True := trivial) | (go_at_call 23; (with_reducible refine (number_any _ (b.drop 4) hbb w _ hR1).mono ?_); rw [HN.out]; rintro e w2 ⟨rfl, hR2, hF2⟩; have hS2 := hS1.step hF2 (fun k e => by omega); clear hR1 hS1 hF2 hF1 hC1 hcv) | (go_at_call 15; (with_reducible refine (may_any (m : Int) true _ hm0 HM.out).mono ?_); rintro e w' ⟨rfl, hd⟩; obtain ⟨nd, rfl⟩ := hd.out; have hS3 := hS2.drewN nd; have hR3 := hR2.drewN nd; clear hd hR2 hS2) | (go_at_call 21; have _t := tok2; (with_reducible refine (must_yes _).mono ?_); rintro e w' ⟨rfl, rfl⟩; clear tok2; have tok3 : True := trivial) | (go_at_call 24; (with_reducible refine (words_any _ rest hbr m hm16 w _ hR3).mono ?_); rw [HW.out]; rintro e w4 ⟨v4, rfl, hO4, hR4, hF4⟩; have hS4 := hS3.step hF4 (fun k e => by omega); have hsz := RdS.sz hS3; obtain ⟨A4, c4, rfl⟩ := Kd.R_slice hO4; obtain ⟨hF5, hO5, hS5, hx5, ⟨x5, hcx⟩, hfx⟩ := words_store hS3 hS4 hO4; clear hO4 hR4 hF4 hS4 hS3 hR3) | (go_at_call 8; (with_reducible refine (write_yes A4 c4 out _ (Kd.R_reads' hO5).2.2 (Kd.R_reads' hO5).2.1 (by have := Hol.out; omega) HMO.out).mono ?_); rintro e w6 ⟨v6, rfl, hO6, hB6⟩; obtain ⟨A6, c6, rfl⟩ := Kd.R_slice hO6; have hS6 := hS5.step (Frm.of_below hB6 (fun _ => False)) (fun k e => e.elim); have hO7 := Kd.R_below hO5 hB6; have hx6 := blk_below hx5 hB6; have hE1 := (Kd.R_reads' hO6).2.2; have hE2 := (Kd.R_reads' hO6).2.1; clear hO5 hS5 hx5 hcx hfx hB6 hO6) | (go_at_call 25; (with_reducible refine (equal_any A6 c6 (fullB out) A c b true _ hE1 hE2 (Kd.C_below hr hS6.below) hc HEQ.out).mono ?_); rintro e w7 ⟨rfl, hd⟩; obtain ⟨nd7, rfl⟩ := hd.out; clear hd; have hS7 := hS6.drewN nd7; have hc7 := cell_of_blk (blk_drewN hx6 (n := nd7)); have hf7 := free_of_blk (blk_drewN hx6 (n := nd7)) 0; obtain ⟨yy, hy7⟩ := hS7.err; have hc8 := cell_of_blk hy7; have hf8 := free_of_blk hy7 0) | (go_at_call 21; have _t := tok3; (with_reducible refine (must_yes _).mono ?_); rintro e w' ⟨rfl, rfl⟩; clear tok3))
  obtain ⟨k1, k2, k3, k4⟩ := read_end (w2 := w2) (nd := nd) hsz (Kd.R_drewN hO7 nd7) hS7.below (blk_drewN hx6) hy7
  exact door_yes w _ _ (ReadYes w out) k1 k2 ⟨_, rfl, k3, k4⟩ _ rfl rfl
end Go.Proofs.Ytanelaajdajjnaa
