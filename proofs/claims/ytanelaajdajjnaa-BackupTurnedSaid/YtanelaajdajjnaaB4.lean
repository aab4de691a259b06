/- Contract of the backup reader's words. Conditions: none. -/
import Derived.Test.YtanelaajdajjnaaB3
namespace Go.Proofs.Ytanelaajdajjnaa
open Go.RowKit Go.Proofs.YtanelaajdajjnaaW.PrintWords Go.Proofs.YtanelaajdajjnaaW.PrintLast Go.Proofs.YtanelaajdajjnaaW.PrintMore
set_option linter.unusedVariables false
set_option linter.unusedSimpArgs false
theorem info_u64 : (Try.prog.info? 41).map (fun i => (i.zero, i.size, i.bytes)) = some (some (.int .u64 0), 1, 8) := by kernel_rfl
theorem Rd.step {w0 w W : World} {B : Nat} {l : List Int} (h : Rd w0 w B l) (hb : Below w.heap.size w W) : Rd w0 W B l := by
  obtain ⟨⟨A, c, h1, h2⟩, h3, h4⟩ := h
  exact ⟨⟨A, c, (hb.block B (blk_lt_ h1)).trans h1, h2⟩, h3.trans (hb.mono h3.size), h4⟩
theorem Rd.step' {w0 w W : World} {B : Nat} {l : List Int} {S : Nat → Prop} (h : Rd w0 w B l) (hb : Frm S w W) (hS : ∀ k, S k → k ≠ B ∧ w0.heap.size ≤ k) : Rd w0 W B l := by
  obtain ⟨⟨A, c, h1, h2⟩, h3, h4⟩ := h
  refine ⟨⟨A, c, hb.blk h1 (fun hs => (hS B hs).1 rfl), h2⟩, h3.trans (hb.below h3.size (fun k hk hs => by have := (hS k hs).2; omega)), h4⟩
/-- Words that a call has put together, in a row of its own. -/
abbrev Ow (w0 w W : World) (v : Value) (out : List Int) : Prop := Kd.R (Kd.int .u64) 41 W w0.heap.size (fun k => w.heap.size ≤ k) v out
theorem Ow.frm {w0 w W W2 : World} {v : Value} {out : List Int} {B : Nat} (h : Ow w0 w W v out) (hF : Frm (· = B) W W2) (hB : B < w.heap.size) : Ow w0 w W2 v out :=
  Kd.R_step h (fun k hk hlt => hF.block k hlt (fun e => by omega))
/-- An append onto such words. -/
theorem ow_grown {w0 w W W2 : World} {v : Value} {out : List Int} {B : Nat} {b : List Int} (h : Ow w0 w W v out) (hg : W.grownBy W2 v.ownBlock) (hF : Frm (· = B) w W) (hR : Rd w0 W B b) (hw : w0.heap.size ≤ w.heap.size) (hB : B < w.heap.size) : Frm (· = B) w W2 ∧ Rd w0 W2 B b := by
  have h1 : Frm (fun k => some k = v.ownBlock) W W2 := (Frm.refl _ W).grown hg (fun k e _ => e.symm)
  refine ⟨hF.grown hg (fun k e hk => ?_), hR.step' h1 (fun k hk => ?_)⟩
  · have := h.1 k e; omega
  · have := h.1 k hk.symm; omega

theorem word8 (A : Option Addr) (l : List Int) (hl : l.length = 8) (w0 w : World) (h : Kd.C (Kd.int .u8) w0 A 8 l) (hb : Below w0.heap.size w0 w) :
    Calls Try.prog 32 #[.slice A 8 8] w fun e W' => e = .returned (.int .u64 (wordV l)) ∧ Below w.heap.size w W' := by
  have := word_any A 8 l (by omega) (by omega) w (C_toNat (Kd.C_below h hb) hl.symm)
  rwa [hl] at this
theorem take8_yes (B : Nat) (l : List Int) (hn : 8 ≤ l.length) (w0 w : World) (hR : Rd w0 w B l) :
    Calls Try.prog 22 #[.pointer (some ⟨B, 0, none⟩), .int .i64 8] w fun e w' => ∃ A, e = .returned (.slice A 8 8) ∧ Kd.C (Kd.int .u8) w0 A 8 (l.take 8) ∧ Rd w0 w' B (l.drop 8) ∧ Frm (· = B) w w' := take_yes B l 8 hn w0 w hR
theorem take8_no (B : Nat) (l : List Int) (hn : ¬ 8 ≤ l.length) (w0 w : World) (h : Rd w0 w B l) :
    Calls Try.prog 22 #[.pointer (some ⟨B, 0, none⟩), .int .i64 8] w fun e w' => e = .panicked crpt ∧ w = w' := take_no B l 8 (by omega) w0 w h
theorem Ow.below {w0 w W W2 : World} {v : Value} {out : List Int} (h : Ow w0 w W v out) (hb : Below W.heap.size W W2) : Ow w0 w W2 v out := Kd.R_below h hb
def WordsPost (w0 w : World) (B : Nat) : Option (List Int × List Int) → Ending → World → Prop
  | some (out, r) => fun e w' => ∃ v, e = .returned v ∧ Ow w0 w w' v out ∧ Rd w0 w' B r ∧ Frm (· = B) w w'
  | none => fun e w' => e = .panicked crpt ∧ Frm (· = B) w w'
set_option maxRecDepth 100000 in
set_option maxHeartbeats 1000000 in
theorem words_any (B : Nat) (l : List Int) (hbs : ∀ c ∈ l, IsByte c) (many : Nat) (hm : many ≤ 16384) (w0 w : World) (hR : Rd w0 w B l) :
    Calls Try.prog 24 #[.pointer (some ⟨B, 0, none⟩), .int .i64 many] w (WordsPost w0 w B (wordsO (l.length + 1) many [] l)) := by
  have hBw : B < w.heap.size := by obtain ⟨A, c, h, _⟩ := hR.has; exact blk_lt_ h
  have hww : w0.heap.size ≤ w.heap.size := hR.below.size
  have hll := hR.len
  obtain ⟨R, hRR⟩ : ∃ R, R = wordsO (l.length + 1) many [] l := ⟨_, rfl⟩
  rw [← hRR]
  have HRR := Lib.hid hRR
  clear hRR
  go_enter Try.func24, Try.ntmps24
  go_wp2
  go_loopg [5] (l.length + 1) (fun kq v5 wr => ∃ (out b : List Int), Aside0 (b.length < kq ∧ (∀ c ∈ b, IsByte c) ∧ wordsO kq many out b = R) ∧ Aside0 (out.length ≤ many) ∧ Aside0 (Ow w0 w wr v5 out) ∧ Rd w0 wr B b ∧ Frm (· = B) w wr)
  case atStart => exact ⟨[], l, ⟨by omega, hbs, HRR.out.symm⟩, ⟨by simp⟩, ⟨Kd.R_nil _ _ _ _ _⟩, hR, Frm.refl _ _⟩
  case round =>
    obtain ⟨out, b, HA, HL, HO, hRb, hF⟩ := hrel
    cases gk with
    | zero => exact absurd HA.out.1 (by omega)
    | succ k =>
      obtain ⟨wo, rfl⟩ : ∃ wo : World, wo = wr := ⟨_, rfl⟩
      have hE := HA.out.2.2
      have hby := Aside0.mk HA.out.2.1
      have hlen := Aside0.mk HA.out.1
      clear HA
      simp only [wordsO] at hE
      obtain ⟨A1, c1, rfl⟩ := Kd.R_slice HO.out
      by_cases hlt : out.length < many
      · rw [if_pos hlt] at hE
        have b0 : decide ((out.length : Int) < (many : Int)) = true := by simp; omega
        cases hz : numO 9 0 0 b with
        | none =>
          rw [hz] at hE
          have HE3 := Lib.hid hE
          have Hz := Lib.hid hz
          clear hE hz
          go_wp2_with (go_at_call 23; refine (number_any B b hby.out w0 _ hRb).mono ?_; rw [Hz.out]; rintro e w1 ⟨rfl, hF1⟩)
          refine bodyPost_panic rfl ?_
          rw [← HE3.out]
          exact ⟨rfl, hF.trans hF1 (fun _ _ h => h)⟩
        | some p =>
          obtain ⟨z, b1⟩ := p
          rw [hz] at hE
          replace hE : (if z ≤ (many : Int) - out.length then
              (if (out ++ List.replicate z.toNat 0).length = many then some (out ++ List.replicate z.toNat 0, b1) else
              (match numO 9 0 0 b1 with
              | none => none
              | some (n, b2) => if n ≤ (many : Int) - (out ++ List.replicate z.toNat 0).length then
                  (match takeW n.toNat (out ++ List.replicate z.toNat 0) b2 with
                  | none => none
                  | some (out2, b3) => wordsO k many out2 b3) else none)) else none) = R := hE
          obtain ⟨z0, z1, z2, z3⟩ := numO_spec 9 0 0 b z b1 (by omega) (by decide) (by decide) hby.out hz
          have Z2 := Aside0.mk z2
          have Z3 := Aside0.mk z3
          have Hz := Lib.hid hz
          clear hz z2 z3
          by_cases hz2 : z ≤ (many : Int) - out.length
          · rw [if_pos hz2] at hE
            have b1' : decide (z ≤ (many : Int) - (out.length : Int)) = true := by simp; omega
            obtain ⟨o1, ho1⟩ : ∃ o1, o1 = out ++ List.replicate z.toNat 0 := ⟨_, rfl⟩
            rw [← ho1] at hE
            have hl1 : o1.length = out.length + z.toNat := by rw [ho1]; simp
            have Ho1 := Lib.hid ho1
            have hl1b : o1.length ≤ many := by omega
            clear ho1
            by_cases hd : o1.length = many
            · rw [if_pos hd] at hE
              have HE3 := Lib.hid hE
              have b2' : ((o1.length : Int) == (many : Int)) = true := by simp; omega
              clear hE hl1 hd
              go_wp2_with (first | (go_at_call 23; refine (number_any B b hby.out w0 _ hRb).mono ?_; rw [Hz.out]; rintro e w1 ⟨rfl, hR1, hF1⟩; have HO1 := Aside0.mk (HO.out.frm hF1 hBw); clear hRb Hz) | (go_at_call 21; refine (must_yes _).mono ?_; rintro e w' ⟨rfl, rfl⟩) | (at_builtin; refine Kd.R_append_zeros (Kd.int .u64) (w0 := w0) w0.heap.size rfl (.tmp 21) (.tmp 22) 22 3 41 (.int .u64 0) 8 rfl Try.underlying22 Try.underlying3 info_u64 rfl (by decide) (by omega) _ out 0 z (fun k => w.heap.size ≤ k) rfl rfl rfl ?aF HO1.out z0 hR1.below hR1.below.size ?aL ?_; (case aF => exact fun k hk => Nat.le_trans (hF.trans hF1 (fun _ _ h => h)).size hk); (case aL => omega); intro v1 w2 ho hb hg hat; rw [← Ho1.out] at ho; obtain ⟨hF2, hR2⟩ := ow_grown HO1.out hg (hF.trans hF1 (fun _ _ h => h)) hR1 hww hBw; obtain ⟨A2, c2, rfl⟩ := Kd.R_slice ho; have HO2 : Aside0 (Ow w0 w w2 (.slice A2 o1.length c2) o1) := ⟨ho⟩; clear hb hg hat ho HO1 HO hF1 hF hR1))
              go_ret
              rw [← HE3.out]
              exact ⟨_, rfl, HO2.out, hR2, hF2⟩
            · rw [if_neg hd] at hE
              have b2' : ((o1.length : Int) == (many : Int)) = false := by simp; omega
              have hd2 : o1.length < many := by omega
              clear hd
              cases hn : numO 9 0 0 b1 with
              | none =>
                rw [hn] at hE
                have HE3 := Lib.hid hE
                have Hn := Lib.hid hn
                clear hE hn hl1
                go_wp2_with (first | (go_at_call 23; refine (number_any B b hby.out w0 _ hRb).mono ?_; rw [Hz.out]; rintro e w1 ⟨rfl, hR1, hF1⟩; have HO1 := Aside0.mk (HO.out.frm hF1 hBw); clear hRb Hz) | (go_at_call 21; refine (must_yes _).mono ?_; rintro e w' ⟨rfl, rfl⟩) | (at_builtin; refine Kd.R_append_zeros (Kd.int .u64) (w0 := w0) w0.heap.size rfl (.tmp 21) (.tmp 22) 22 3 41 (.int .u64 0) 8 rfl Try.underlying22 Try.underlying3 info_u64 rfl (by decide) (by omega) _ out 0 z (fun k => w.heap.size ≤ k) rfl rfl rfl ?aF HO1.out z0 hR1.below hR1.below.size ?aL ?_; (case aF => exact fun k hk => Nat.le_trans (hF.trans hF1 (fun _ _ h => h)).size hk); (case aL => omega); intro v1 w2 ho hb hg hat; rw [← Ho1.out] at ho; obtain ⟨hF2, hR2⟩ := ow_grown HO1.out hg (hF.trans hF1 (fun _ _ h => h)) hR1 hww hBw; obtain ⟨A2, c2, rfl⟩ := Kd.R_slice ho; have HO2 : Aside0 (Ow w0 w w2 (.slice A2 o1.length c2) o1) := ⟨ho⟩; clear hb hg hat ho HO1 HO hF1 hF hR1) | (go_at_call 23; refine (number_any B b1 Z3.out w0 _ hR2).mono ?_; rw [Hn.out]; rintro e w3 ⟨rfl, hF3⟩))
                refine bodyPost_panic rfl ?_
                rw [← HE3.out]
                exact ⟨rfl, hF2.trans hF3 (fun _ _ h => h)⟩
              | some p =>
                obtain ⟨n, b2⟩ := p
                rw [hn] at hE
                replace hE : (if n ≤ (many : Int) - o1.length then
                  (match takeW n.toNat o1 b2 with
                  | none => none
                  | some (out2, b3) => wordsO k many out2 b3) else none) = R := hE
                obtain ⟨n0, n1, n2, n3⟩ := numO_spec 9 0 0 b1 n b2 (by omega) (by decide) (by decide) Z3.out hn
                have N2 := Aside0.mk n2
                have N3 := Aside0.mk n3
                have Hn := Lib.hid hn
                clear hn n2 n3
                by_cases hn2 : n ≤ (many : Int) - o1.length
                · rw [if_pos hn2] at hE
                  have b3' : decide (n ≤ (many : Int) - (o1.length : Int)) = true := by simp; omega
                  obtain ⟨m, rfl⟩ := Int.eq_ofNat_of_zero_le n0
                  simp only [Int.toNat_natCast] at hE
                  obtain ⟨T, hT⟩ : ∃ T, T = takeW m o1 b2 := ⟨_, rfl⟩
                  rw [← hT] at hE
                  have HT := Lib.hid hT
                  have HE3 := Lib.hid hE
                  have Hl1 := Aside0.mk hl1
                  have Hm := Aside0.mk (show o1.length + m ≤ many by omega)
                  clear hE hT hl1
                  go_wp2_with (first | (go_at_call 23; refine (number_any B b hby.out w0 _ hRb).mono ?_; rw [Hz.out]; rintro e w1 ⟨rfl, hR1, hF1⟩; have HO1 := Aside0.mk (HO.out.frm hF1 hBw); clear hRb Hz) | (go_at_call 21; refine (must_yes _).mono ?_; rintro e w' ⟨rfl, rfl⟩) | (at_builtin; refine Kd.R_append_zeros (Kd.int .u64) (w0 := w0) w0.heap.size rfl (.tmp 21) (.tmp 22) 22 3 41 (.int .u64 0) 8 rfl Try.underlying22 Try.underlying3 info_u64 rfl (by decide) (by omega) _ out 0 z (fun k => w.heap.size ≤ k) rfl rfl rfl ?aF HO1.out z0 hR1.below hR1.below.size ?aL ?_; (case aF => exact fun k hk => Nat.le_trans (hF.trans hF1 (fun _ _ h => h)).size hk); (case aL => omega); intro v1 w2 ho hb hg hat; rw [← Ho1.out] at ho; obtain ⟨hF2, hR2⟩ := ow_grown HO1.out hg (hF.trans hF1 (fun _ _ h => h)) hR1 hww hBw; obtain ⟨A2, c2, rfl⟩ := Kd.R_slice ho; have HO2 : Aside0 (Ow w0 w w2 (.slice A2 o1.length c2) o1) := ⟨ho⟩; clear hb hg hat ho HO1 HO hF1 hF hR1) | (go_at_call 23; refine (number_any B b1 Z3.out w0 _ hR2).mono ?_; rw [Hn.out]; rintro e w3 ⟨rfl, hR3, hF3⟩; have HO3 := Aside0.mk (HO2.out.frm hF3 hBw); have hF4 := hF2.trans hF3 (fun _ _ h => h); clear hR2 HO2 hF2 hF3))
                  go_loopg [5, 38] m (fun kq v5 v38 wi => ∃ (j : Nat) (o2 b3 : List Int), v38 = .int .i64 j ∧ Aside0 (j + kq = m ∧ takeW kq o2 b3 = T) ∧ Aside0 (o2.length + kq = o1.length + m ∧ b3.length ≤ b2.length ∧ (∀ c ∈ b3, IsByte c)) ∧ Aside0 (Ow w0 w wi v5 o2) ∧ Rd w0 wi B b3 ∧ Frm (· = B) w wi)
                  case atStart => exact ⟨0, o1, b2, rfl, ⟨by omega, HT.out.symm⟩, ⟨by omega, by omega, N3.out⟩, HO3, hR3, hF4⟩
                  case round =>
                    clear HO3 hR3 hF4 HT
                    obtain ⟨j, o2, b3, rfl, HA, HI, HO, hRb, hF⟩ := hrel
                    obtain ⟨A3, c3, rfl⟩ := Kd.R_slice HO.out
                    cases gk with
                    | zero =>
                      have hj : j = m := by have := HA.out.1; omega
                      have c0 : decide (j < m) = false := by simp; omega
                      clear hj
                      go_wp2_with fail
                      go_roundg k
                      case measure => omega
                      case rel =>
                        have hT := HA.out.2
                        simp only [takeW] at hT
                        refine ⟨o2, b3, ⟨?_, HI.out.2.2, ?_⟩, ⟨?_⟩, ⟨HO.out⟩, hRb, hF⟩
                        · have := HI.out.2.1; have := Z2.out; have := N2.out; have := hlen.out; omega
                        · have := HE3.out; rw [← hT] at this; exact this
                        · have := HI.out.1; have := Hm.out; omega
                    | succ kk =>
                      have hj : j < m := by have := HA.out.1; omega
                      have c0 : decide (j < m) = true := by simp; omega
                      have hT := HA.out.2
                      simp only [takeW] at hT
                      by_cases h8 : 8 ≤ b3.length
                      · rw [if_pos h8] at hT
                        have HT := Lib.hid hT
                        clear hT
                        have hlo : o2.length + 1 ≤ 16384 := by have := HI.out.1; have := Hm.out; omega
                        go_wp2_with (first | (go_at_call 22; refine (take8_yes B b3 h8 w0 _ hRb).mono ?_; rintro e w4 ⟨A4, rfl, hC4, hR4, hF5⟩; have HO5 := Aside0.mk (HO.out.frm hF5 hBw); have hF6 := hF.trans hF5 (fun _ _ h => h)) | (go_at_call 32; refine (word8 A4 (b3.take 8) (by simp; omega) w0 _ hC4 hR4.below).mono ?_; rintro e w5 ⟨rfl, hb5⟩; have HO6 := Aside0.mk (HO5.out.below hb5); have hR6 := hR4.step hb5; have hF7 := hF6.trans (Frm.of_below hb5 (· = B)) (fun _ _ h => h)) | (at_builtin; refine Kd.R_append (Kd.int .u64) (w0 := w0) w0.heap.size rfl (.tmp 40) (.tmp 44) 22 41 (.int .u64 0) 8 rfl Try.underlying22 info_u64 rfl (by decide) (by omega) _ o2 (wordV (b3.take 8)) [.int .u64 (wordV (b3.take 8))] (fun k => w.heap.size ≤ k) (fun _ => False) rfl rfl rfl (fun _ h => h.elim) ?aF HO6.out hR6.below ?aS ?aL ?_; (case aF => exact fun k hk => Nat.le_trans hF7.size hk); (case aS => exact hR6.below.size); (case aL => omega); intro v1 w6 ho hb hg hat; obtain ⟨hF8, hR8⟩ := ow_grown HO6.out hg hF7 hR6 hww hBw; obtain ⟨A7, c7, rfl⟩ := Kd.R_slice ho; have HO8 : Aside0 (Ow w0 w w6 (.slice A7 (o2 ++ [wordV (b3.take 8)]).length c7) (o2 ++ [wordV (b3.take 8)])) := ⟨ho⟩; clear hb hg hat ho))
                        go_roundg kk
                        case measure => omega
                        case rel => exact ⟨j + 1, _, _, by go_num, ⟨by have := HA.out.1; omega, HT.out⟩, ⟨by have := HI.out.1; simp; omega, by have := HI.out.2.1; simp; omega, fun c hc => HI.out.2.2 c (List.mem_of_mem_drop hc)⟩, (by simpa using HO8), hR8, hF8⟩
                      · rw [if_neg h8] at hT
                        have HR : none = R := by have := HE3.out; rw [← hT] at this; exact this
                        have HE4 := Lib.hid HR
                        clear hT HR
                        go_wp2_with (go_at_call 22; refine (take8_no B b3 h8 w0 _ hRb).mono ?_; rintro e w4 ⟨rfl, rfl⟩)
                        refine bodyPost_panic rfl ?_
                        rw [← HE4.out]
                        exact ⟨rfl, hF⟩
                · rw [if_neg hn2] at hE
                  have b3' : decide (n ≤ (many : Int) - (o1.length : Int)) = false := by simp; omega
                  have HE3 := Lib.hid hE
                  clear hE hl1
                  go_wp2_with (first | (go_at_call 23; refine (number_any B b hby.out w0 _ hRb).mono ?_; rw [Hz.out]; rintro e w1 ⟨rfl, hR1, hF1⟩; have HO1 := Aside0.mk (HO.out.frm hF1 hBw); clear hRb Hz) | (go_at_call 21; refine (must_yes _).mono ?_; rintro e w' ⟨rfl, rfl⟩) | (at_builtin; refine Kd.R_append_zeros (Kd.int .u64) (w0 := w0) w0.heap.size rfl (.tmp 21) (.tmp 22) 22 3 41 (.int .u64 0) 8 rfl Try.underlying22 Try.underlying3 info_u64 rfl (by decide) (by omega) _ out 0 z (fun k => w.heap.size ≤ k) rfl rfl rfl ?aF HO1.out z0 hR1.below hR1.below.size ?aL ?_; (case aF => exact fun k hk => Nat.le_trans (hF.trans hF1 (fun _ _ h => h)).size hk); (case aL => omega); intro v1 w2 ho hb hg hat; rw [← Ho1.out] at ho; obtain ⟨hF2, hR2⟩ := ow_grown HO1.out hg (hF.trans hF1 (fun _ _ h => h)) hR1 hww hBw; obtain ⟨A2, c2, rfl⟩ := Kd.R_slice ho; have HO2 : Aside0 (Ow w0 w w2 (.slice A2 o1.length c2) o1) := ⟨ho⟩; clear hb hg hat ho HO1 HO hF1 hF hR1) | (go_at_call 23; refine (number_any B b1 Z3.out w0 _ hR2).mono ?_; rw [Hn.out]; rintro e w3 ⟨rfl, hR3, hF3⟩; have HO3 := Aside0.mk (HO2.out.frm hF3 hBw); have hF4 := hF2.trans hF3 (fun _ _ h => h); clear hR2 HO2 hF2 hF3) | (go_at_call 21; refine (must_no _).mono ?_; rintro e w' ⟨rfl, rfl⟩))
                  refine bodyPost_panic rfl ?_
                  rw [← HE3.out]
                  exact ⟨rfl, hF4⟩
          · rw [if_neg hz2] at hE
            have b1' : decide (z ≤ (many : Int) - (out.length : Int)) = false := by simp; omega
            have HE3 := Lib.hid hE
            clear hE
            go_wp2_with (first | (go_at_call 23; refine (number_any B b hby.out w0 _ hRb).mono ?_; rw [Hz.out]; rintro e w1 ⟨rfl, hR1, hF1⟩; have HO1 := Aside0.mk (HO.out.frm hF1 hBw); clear hRb Hz) | (go_at_call 21; refine (must_no _).mono ?_; rintro e w' ⟨rfl, rfl⟩))
            refine bodyPost_panic rfl ?_
            rw [← HE3.out]
            exact ⟨rfl, hF.trans hF1 (fun _ _ h => h)⟩
      · rw [if_neg hlt] at hE
        have HE3 := Lib.hid hE
        have b0 : decide ((out.length : Int) < (many : Int)) = false := by simp; omega
        clear hE
        go_wp2_with fail
        go_ret
        rw [← HE3.out]
        exact ⟨_, rfl, HO.out, hRb, hF⟩
end Go.Proofs.Ytanelaajdajjnaa
