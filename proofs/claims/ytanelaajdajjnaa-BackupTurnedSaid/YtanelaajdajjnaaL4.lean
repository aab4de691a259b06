/- The walk of BackupTurned: it answers true. Conditions: none. -/
import Derived.Test.YtanelaajdajjnaaL2
import Derived.Test.YtanelaajdajjnaaL3
import Derived.StillTailTactics
namespace Go.Proofs.Ytanelaajdajjnaa
open Go.RowKit Go.Proofs.YtanelaajdajjnaaW.PrintWords Go.Proofs.YtanelaajdajjnaaW.PrintLast Go.Proofs.YtanelaajdajjnaaW.PrintMore
set_option linter.unusedVariables false
set_option linter.unusedSimpArgs false
open PBackupReads
/-- A row of bytes of one's own, cell by cell. -/
theorem ob_cells {w0 W : World} {v : Value} {bs : List Int} (h : Ob w0 W v bs) (hp : 0 < bs.length) : ∃ g c cur, v = .slice (some ⟨g, 0, none⟩) bs.length c ∧ w0.heap.size ≤ g ∧ bs.length ≤ c ∧ W.heap[g]? = some (.cells cur 5 (0, 0)) ∧ (∀ j, j < bs.length → cur[j]? = some (.int .u8 (bs.getD j 0))) := by
  have ho := Kd.own_of_R h
  rcases ho.2 with ⟨_, e⟩ | ⟨g, c, cur, rfl, hg, hh, hc, _, _, ht⟩
  · omega
  · refine ⟨g, c, cur, rfl, hg, hc, hh, fun j hj => ?_⟩
    have e := congrArg (fun l => l[j]?) ht
    simp only [Nat.mul_one, List.getElem?_take, hj, if_true, encs, List.getElem?_map, List.getElem?_eq_getElem hj, Option.map_some] at e
    rw [List.getD_eq_getElem?_getD, List.getElem?_eq_getElem hj, Option.getD_some]
    simpa using e
theorem cells_C {W : World} {g : Nat} {cur : Array Value} {T : TypeId} {bs : List Int} (hb : W.heap[g]? = some (.cells cur T (0, 0))) (hl : bs.length ≤ 9223372036854775807) (hc : ∀ j, j < bs.length → cur[j]? = some (.int .u8 (bs.getD j 0))) : Kd.C (Kd.int .u8) W (some ⟨g, 0, none⟩) bs.length bs := by
  refine Kd.C_of_reads (d := (0 : Int)) ⟨rfl, hl, fun _ => ⟨_, rfl, fun j hj => ?_⟩⟩
  rw [add_plain, blk_cell hb]
  exact hc j hj
theorem cells_at {W : World} {g : Nat} {cur : Array Value} {T : TypeId} {bs : List Int} (hb : W.heap[g]? = some (.cells cur T (0, 0))) (hc : ∀ j, j < bs.length → cur[j]? = some (.int .u8 (bs.getD j 0))) (j : Nat) (hj : j < bs.length) : W.cell? ⟨g, j, none⟩ = some (.int .u8 (bs.getD j 0)) := by
  rw [blk_cell hb]
  exact hc j hj
theorem cells_set {cur : Array Value} {bs : List Int} (hc : ∀ j, j < bs.length → cur[j]? = some (.int .u8 (bs.getD j 0))) (i : Nat) (y : Int) : ∀ j, j < (bs.set i y).length → (cur.setIfInBounds i (.int .u8 y))[j]? = some (.int .u8 ((bs.set i y).getD j 0)) := by
  intro j hj
  rw [List.length_set] at hj
  have hjc := hc j hj
  have hlt := (Array.getElem?_eq_some_iff.1 hjc).1
  rw [List.getD_eq_getElem?_getD, List.getElem?_set, Array.getElem?_setIfInBounds]
  by_cases e : i = j
  · subst e
    rw [if_pos rfl, if_pos rfl, if_pos hlt, if_pos hj]; rfl
  · rw [if_neg e, if_neg e, hjc, List.getD_eq_getElem?_getD]
theorem write_g (A : Option Addr) (c : Nat) (l : List Int) (w : World) (hr : Kd.C (Kd.int .u64) w A l.length l) (hc : l.length ≤ c) (hn : l.length ≤ 140737488351232) (hm : mayB l.length = true) :
    Calls Try.prog 8 #[.slice A l.length c] w fun e w' => ∃ g c2 cur, e = .returned (.tuple #[.slice (some ⟨g, 0, none⟩) (fullB l).length c2, .int .i64 0]) ∧ w.heap.size ≤ g ∧ (fullB l).length ≤ c2 ∧ w'.heap[g]? = some (.cells cur 5 (0, 0)) ∧ (∀ j, j < (fullB l).length → cur[j]? = some (.int .u8 ((fullB l).getD j 0))) ∧ Below w.heap.size w w' := by
  refine (write_yes A c l w hr hc hn hm).mono ?_
  rintro e w' ⟨v, rfl, ho, hB⟩
  have hp : 0 < (fullB l).length := by rw [fullB_form]; simp
  obtain ⟨g, c2, cur, rfl, h1, h2, h3, h4⟩ := ob_cells ho hp
  exact ⟨g, c2, cur, rfl, h1, h2, h3, h4, hB⟩
set_option maxHeartbeats 1000000 in
theorem turned_no (A0 : Option Addr) (c0 : Nat) (l : List Int) (at_ flip : Int) (w : World) (hr : Kd.C (Kd.int .u64) w A0 l.length l) (hc : l.length ≤ c0) (h0 : l.length * 8 ≤ 140737488351232) (hm : mayB l.length = false) :
    Calls Try.prog 5 #[.slice A0 l.length c0, .int .u16 at_, .int .u8 flip] w (TrueB w) := by
  go_enter Try.func5, Try.ntmps5
  go_wp2_with (first | (go_at_call 7; refine (alive_any _).mono ?_; rintro e w1 ⟨rfl, hb1⟩) | (go_at_call 8; (with_reducible refine (write_no A0 c0 l _ (by omega) hm).mono ?_); rintro e w2 ⟨rfl, hb2⟩; have hb3 := bbelow hb1 hb2 hb1.size))
  go_ret
  exact ⟨rfl, hb3⟩
set_option maxHeartbeats 1000000 in
theorem turned_long (A0 : Option Addr) (c0 : Nat) (l : List Int) (at_ flip : Int) (w : World) (hr : Kd.C (Kd.int .u64) w A0 l.length l) (hc : l.length ≤ c0) (h0 : l.length * 8 ≤ 140737488351232) (hm : mayB l.length = true) (hl : 2000 < l.length) :
    Calls Try.prog 5 #[.slice A0 l.length c0, .int .u16 at_, .int .u8 flip] w (TrueB w) := by
  have b0 : decide ((l.length : Int) > 2000) = true := by simp; omega
  go_enter Try.func5, Try.ntmps5
  go_wp2_with (first | (go_at_call 7; refine (alive_any _).mono ?_; rintro e w1 ⟨rfl, hb1⟩) | (go_at_call 8; (with_reducible refine (write_c A0 c0 l _ (Kd.C_below hr hb1) hc (by omega) hm).mono ?_); rintro e w2 ⟨A2, c2, rfl, hC2, hc2, hb2⟩; have hb3 := bbelow hb1 hb2 hb1.size))
  go_ret
  exact ⟨rfl, hb3⟩
set_option maxHeartbeats 1000000 in
theorem turned_same (A0 : Option Addr) (c0 : Nat) (l : List Int) (at_ flip : Int) (w : World) (hr : Kd.C (Kd.int .u64) w A0 l.length l) (hc : l.length ≤ c0) (h0 : l.length * 8 ≤ 140737488351232) (hm : mayB l.length = true) (hl : ¬ 2000 < l.length) (hf : flip = 0) :
    Calls Try.prog 5 #[.slice A0 l.length c0, .int .u16 at_, .int .u8 flip] w (TrueB w) := by
  have b0 : decide ((l.length : Int) > 2000) = false := by simp; omega
  have b1 : (flip == 0) = true := by simp [hf]
  clear hf
  go_enter Try.func5, Try.ntmps5
  go_wp2_with (first | (go_at_call 7; refine (alive_any _).mono ?_; rintro e w1 ⟨rfl, hb1⟩) | (go_at_call 8; (with_reducible refine (write_c A0 c0 l _ (Kd.C_below hr hb1) hc (by omega) hm).mono ?_); rintro e w2 ⟨A2, c2, rfl, hC2, hc2, hb2⟩; have hb3 := bbelow hb1 hb2 hb1.size))
  go_ret
  exact ⟨rfl, hb3⟩
theorem ten_ (p n r q : Nat) (h0 : p = 4) (h1 : 1 ≤ n) (h2 : 1 ≤ r) (h3 : q = 4) : 10 ≤ p + (n + (r + q)) := by omega
theorem runsB_pos (l : List Int) : 1 ≤ (runsB (l.length + 1) l).length := by
  obtain ⟨z, hz⟩ : ∃ z, z = runL true l := ⟨_, rfl⟩
  simp only [runsB]
  rw [← hz, List.length_append]
  exact Nat.le_trans (numB_pos9 (z : Int)) (Nat.le_add_right _ _)
theorem fullB_ten (l : List Int) : 10 ≤ (fullB l).length := by
  rw [fullB_form, List.length_append, List.length_append, List.length_append]
  exact ten_ _ _ _ _ rfl (numB_pos9 (l.length : Int)) (runsB_pos l) (leB_len 4 _)
theorem xor8_byte (a b : Int) : IsByte (bits .xor .u8 a b) := by
  unfold bits
  rw [IntKind.wrap_u8]
  constructor <;> omega
theorem turned_bytes (l : List Int) (i : Nat) (y x flip : Int) {T : List Int} (hT : T = (fullB l).set i y) (hy : y = bits .xor .u8 x flip) : ∀ c ∈ T, IsByte c := by
  intro c hc
  rw [hT] at hc
  rcases List.mem_or_eq_of_mem_set hc with h | h
  · exact fullB_byte l c h
  · rw [h, hy]; exact xor8_byte _ _
theorem turned_tail (T : List Int) (N : Nat) (l' : List Int) (hT : T.length = N + 4) (hb : ∀ c ∈ T, IsByte c) (h : readO T = some l') :
    T.getD N 0 = sumOf (T.take N) % 256 ∧ T.getD (N + 1) 0 = sumOf (T.take N) / 256 % 256 ∧ T.getD (N + 2) 0 = sumOf (T.take N) / 65536 % 256 ∧ T.getD (N + 3) 0 = sumOf (T.take N) / 16777216 := by
  obtain ⟨_, hf⟩ := read_right T l' hb h
  have hs := sumOf_range (headB l')
  obtain ⟨s, hse⟩ : ∃ s, s = sumOf (headB l') := ⟨_, rfl⟩
  have hw : IntKind.u64.wrap s = s := wrap_word _ ⟨by omega, by omega⟩
  have hf2 : headB l' ++ leB 4 s = T := by rw [← hf, ← hw, hse]; rfl
  have hl4 := leB_len 4 s
  have hlen : (headB l').length = N := by have := congrArg List.length hf2; rw [List.length_append] at this; omega
  have ht : T.take N = headB l' := by rw [← hf2]; exact List.take_left' hlen
  rw [ht, ← hse]
  have hg : ∀ j, T.getD (N + j) 0 = (leB 4 s).getD j 0 := fun j => by
    rw [← hf2, List.getD_eq_getElem?_getD, List.getElem?_append_right (by rw [hlen]; exact Nat.le_add_right _ _), List.getD_eq_getElem?_getD, hlen, Nat.add_sub_cancel_left]
  have g0 := hg 0
  have g1 := hg 1
  have g2 := hg 2
  have g3 := hg 3
  simp only [Nat.add_zero, leB, List.getD_cons_zero, List.getD_cons_succ] at g0 g1 g2 g3
  rw [g0, g1, g2, g3]
  refine ⟨rfl, rfl, ?_, ?_⟩
  · omega
  · omega
theorem read_none_n (A : Option Addr) (c : Nat) (b : List Int) (n : Nat) (hb : ∀ x ∈ b, IsByte x) (w : World) (hr : Kd.C (Kd.int .u8) w A n b) (e : b.length = n) (hc : n ≤ c) (hn : n ≤ 140737488351232) (h : readO b = none) :
    Calls Try.prog 10 #[.slice A n c] w fun e w' => e = .returned (.tuple #[.slice none 0 0, .int .i64 11]) ∧ Below w.heap.size w w' := by
  subst e
  exact read_none A c b hb w hr hc hn h
theorem refsum_n (A : Option Addr) (c : Nat) (b : List Int) (n : Nat) (w : World) (hr : Kd.C (Kd.int .u8) w A n b) (e : b.length = n) (hc : n ≤ c) (hl : n ≤ 1000000) :
    Calls Try.prog 12 #[.slice A n c] w fun e w' => e = .returned (.int .u32 (sumOf b)) ∧ Drawn0 w w' := by
  subst e
  exact refsum_any A c b w hr hc hl
set_option maxHeartbeats 1000000 in
theorem turned_yes (A0 : Option Addr) (c0 : Nat) (l : List Int) (a : Nat) (flip : Int) (w : World) (hr : Kd.C (Kd.int .u64) w A0 l.length l) (hc : l.length ≤ c0) (h0 : l.length * 8 ≤ 140737488351232) (hm : mayB l.length = true) (hl : ¬ 2000 < l.length) (hf : ¬ flip = 0) (ha1 : a ≤ 65535) (hf0 : 0 ≤ flip) (hf1 : flip ≤ 255) :
    Calls Try.prog 5 #[.slice A0 l.length c0, .int .u16 a, .int .u8 flip] w (TrueB w) := by
  have b0 : decide ((l.length : Int) > 2000) = false := by simp; omega
  have b1 : (flip == 0) = false := by simp [hf]
  have hL1 : 10 ≤ (fullB l).length := fullB_ten l
  have hL2 : (fullB l).length ≤ 1000000 := fullB_len l (by omega)
  go_enter Try.func5, Try.ntmps5
  go_wp2_with (first | (go_at_call 7; refine (alive_any _).mono ?_; rintro e w1 ⟨rfl, hb1⟩) | (go_at_call 8; (with_reducible refine (write_g A0 c0 l _ (Kd.C_below hr hb1) hc (by omega) hm).mono ?_); rintro e w2 ⟨g, c2, cur, rfl, hg, hc2, hblk, hcur, hb2⟩; have hb3 := bbelow hb1 hb2 hb1.size))
  obtain ⟨i, hi⟩ : ∃ i, i = a % (fullB l).length := ⟨_, rfl⟩
  have hiL : i < (fullB l).length := by rw [hi]; exact Nat.mod_lt _ (by omega)
  have hrem : (a : Int) % ((fullB l).length : Int) = (i : Int) := by rw [hi]; omega
  have hcell := cells_at hblk hcur i hiL
  have hfz := free_of_blk hblk i
  obtain ⟨x, hx⟩ : ∃ x, x = (fullB l).getD i 0 := ⟨_, rfl⟩
  rw [← hx] at hcell
  have HX := Lib.hid hx
  have HCUR := Aside0.mk hcur
  obtain ⟨L, hL⟩ : ∃ L, L = (fullB l).length := ⟨_, rfl⟩
  rw [← hL] at hiL hrem hc2 hL1 hL2 ⊢
  have HL := Lib.hid hL
  clear hx hi hL hcur
  have e1 : IntKind.i64.wrap (a : Int) = (a : Int) := wraps_i64 _ (by omega) (by omega)
  have e2 : ¬ (L : Int) = 0 := by omega
  have e2' : ¬ L = 0 := by omega
  have e3 : Int.tmod (a : Int) (L : Int) = (i : Int) := by rw [Int.tmod_eq_emod_of_nonneg (by omega)]; exact hrem
  have e4 : IntKind.i64.wrap (i : Int) = (i : Int) := wraps_i64 _ (by omega) (by omega)
  have e5 : (0 : Int) ≤ (i : Int) ∧ (i : Int) < (L : Int) := by omega
  go_still_tail 17, (by kernel_rfl)
  change wpList _ _ _ _ _ w2.drew
  have hblk2 : w2.drew.heap[g]? = some (.cells cur 5 (0, 0)) := hblk
  have hcell2 : w2.drew.cell? ⟨g, i, none⟩ = some (.int .u8 x) := hcell
  have hfz2 : w2.drew.frozen? ⟨g, i, none⟩ = false := hfz
  have hb4 : Below w.heap.size w w2.drew := hb3.drew
  clear hblk hcell hfz hb3 hb2
  generalize w2.drew = w3 at *
  obtain ⟨y, hy⟩ : ∃ y, y = bits .xor .u8 x flip := ⟨_, rfl⟩
  rw [← hy]
  have HY := Lib.hid hy
  clear hy
  obtain ⟨T, hT⟩ : ∃ T, T = (fullB l).set i y := ⟨_, rfl⟩
  have hTl : T.length = L := by rw [hT, List.length_set, HL.out]
  have hblk4 := blk_set hblk2 i (.int .u8 y)
  have hcur4 := cells_set HCUR.out i y
  rw [← hT] at hcur4
  have hC4 := cells_C hblk4 (by omega) hcur4
  have hg4 : w.heap.size ≤ g := Nat.le_trans hb1.size hg
  have hb5 : Below w.heap.size w (w3.setCell ⟨g, i, none⟩ (.int .u8 y)) := hb4.setCell hg4 _
  have HT := Lib.hid hT
  have HTL := Lib.hid hTl
  clear hT hTl
  generalize hw4 : w3.setCell ⟨g, i, none⟩ (.int .u8 y) = w4 at *
  obtain ⟨N, rfl⟩ : ∃ N, L = N + 4 := ⟨L - 4, by omega⟩
  have hCn := Kd.C_take hC4 (m := N) (by rw [HTL.out]; omega)
  have hq : ∀ j, j < 4 → w4.cell? ⟨g, N + j, none⟩ = some (.int .u8 (T.getD (N + j) 0)) := fun j hj => cells_at hblk4 hcur4 (N + j) (by rw [HTL.out]; omega)
  have q0 := hq 0 (by omega)
  have q1 := hq 1 (by omega)
  have q2 := hq 2 (by omega)
  have q3 := hq 3 (by omega)
  simp only [Nat.add_zero] at q0
  have hP : ∀ l', readO T = some l' → T.getD N 0 = sumOf (T.take N) % 256 ∧ T.getD (N + 1) 0 = sumOf (T.take N) / 256 % 256 ∧ T.getD (N + 2) 0 = sumOf (T.take N) / 65536 % 256 ∧ T.getD (N + 3) 0 = sumOf (T.take N) / 16777216 := fun l' h => turned_tail T N l' HTL.out (turned_bytes l i y x flip HT.out HY.out) h
  have HBY := Aside0.mk (turned_bytes l i y x flip HT.out HY.out)
  generalize T.getD N 0 = t0 at *
  generalize T.getD (N + 1) 0 = t1 at *
  generalize T.getD (N + 2) 0 = t2 at *
  generalize T.getD (N + 3) 0 = t3 at *
  have hs := sumOf_range (T.take N)
  have hlN : (T.take N).length = N := by rw [List.length_take, HTL.out]; omega
  have HCN := Aside0.mk (refsum_n (some ⟨g, 0, none⟩) c2 (T.take N) N w4 (C_toNat hCn hlN) hlN (by omega) (by omega))
  generalize sumOf (T.take N) = sm at *
  have HP := Aside0.mk hP
  clear hq hCn hlN hP
  go_wp2_with (first | (go_at_call 12; (with_reducible refine HCN.out.mono ?_); rintro e w5 ⟨rfl, hd⟩; obtain ⟨nd, rfl⟩ := hd.out))
  · go_ret
    exact ⟨rfl, pw_below_drewN hb5 _⟩
  all_goals
    have hnone : readO T = none := by
      cases h : readO T with
      | none => rfl
      | some l' =>
        exfalso
        obtain ⟨p0, p1, p2, p3⟩ := HP.out l' h
        first
        | exact absurd p0 (by assumption)
        | exact absurd p1 (by assumption)
        | exact absurd p2 (by assumption)
        | (have h3 : (t3 == sm / 16777216) = false := by assumption
           rw [p3] at h3
           simp at h3)
    have HN := Lib.hid hnone
    clear hnone
    refine (read_none_n (some ⟨g, 0, none⟩) c2 T (N + 4) HBY.out _ (Kd.C_drewN (C_toNat hC4 HTL.out) _) HTL.out (by omega) (by omega) HN.out).mono ?_
    rintro e w6 ⟨rfl, hb6⟩
    go_wp2
    go_ret
    exact ⟨rfl, bbelow (pw_below_drewN hb5 _) hb6 (by have := hb5.size; simpa using this)⟩
theorem turned_any (A0 : Option Addr) (c0 : Nat) (l : List Int) (at_ flip : Int) (w : World) (hr : Kd.C (Kd.int .u64) w A0 l.length l) (hc : l.length ≤ c0) (h0 : l.length * 8 ≤ 140737488351232) (ha0 : 0 ≤ at_) (ha1 : at_ ≤ 65535) (hf0 : 0 ≤ flip) (hf1 : flip ≤ 255) :
    Calls Try.prog 5 #[.slice A0 l.length c0, .int .u16 at_, .int .u8 flip] w (TrueB w) := by
  cases hm : mayB l.length with
  | false => exact turned_no A0 c0 l at_ flip w hr hc h0 hm
  | true =>
    by_cases hl : 2000 < l.length
    · exact turned_long A0 c0 l at_ flip w hr hc h0 hm hl
    · by_cases hf : flip = 0
      · exact turned_same A0 c0 l at_ flip w hr hc h0 hm hl hf
      · obtain ⟨a, rfl⟩ := Int.eq_ofNat_of_zero_le ha0
        exact turned_yes A0 c0 l a flip w hr hc h0 hm hl hf (by omega) hf0 hf1
theorem backupTurned_row (A0 : Option Addr) (c0 : Nat) (l : List Int) (at_ flip : Int) (w : World) (hr : Kd.C (Kd.int .u64) w A0 l.length l) (hc : l.length ≤ c0) (h0 : l.length * 8 ≤ 140737488351232) (hw : ∀ x ∈ l, (Lit.int .u64 x).wf = true) (ha : (Lit.int .u16 at_).wf = true) (hf : (Lit.int .u8 flip).wf = true) :
    Calls Try.prog 5 #[.slice A0 l.length c0, .int .u16 at_, .int .u8 flip] w (TrueB w) := by
  have hb := wf_byte hf
  have hmin : IntKind.u16.min = 0 := rfl
  have hmax : IntKind.u16.max = 65535 := rfl
  simp only [Lit.wf, Bool.and_eq_true, decide_eq_true_eq] at ha
  exact turned_any A0 c0 l at_ flip w hr hc h0 (by omega) (by omega) hb.1 hb.2
end Go.Proofs.Ytanelaajdajjnaa
