/- Contract of backup.Write. Conditions: none. -/
import Derived.Test.YtanelaajdajjnaaB6a
import Derived.Test.YtanelaajdajjnaaM3
namespace Go.Proofs.Ytanelaajdajjnaa
open Go.RowKit Go.Proofs.YtanelaajdajjnaaW.PrintWords Go.Proofs.YtanelaajdajjnaaW.PrintLast Go.Proofs.YtanelaajdajjnaaW.PrintMore
set_option linter.unusedVariables false
set_option linter.unusedSimpArgs false
open PBackupReads
def mayB (n : Int) : Bool := decide (8 ≤ n ∧ n ≤ 16384 ∧ n % 8 = 0)
theorem may_is (n : Int) (h : 0 ≤ n) : backup_may.f n = some (mayB n) := by
  simp only [backup_may.f, mayB]
  rw [Int.tmod_eq_emod_of_nonneg h]
  split
  · split
    · rename_i h1 h2
      congr 1
      by_cases h3 : n % 8 = 0 <;> simp [h3] <;> omega
    · simp; omega
  · simp; omega
theorem little_at : ∀ (m i : Nat) (l : List Int) (x : Int), l.length + m ≤ 140737488355328 → i + m ≤ 9223372036854775806 → backup_little.l0 (m + 1) l x ((i + m : Nat) : Int) i = some (l ++ leB m x)
  | 0, i, l, x, _, _ => by simp only [backup_little.l0, leB]; rw [if_neg (by omega)]; simp
  | m + 1, i, l, x, h, h2 => by
    have ih := little_at m (i + 1) (l ++ [x % 256]) (x / 256) (by simp; omega) (by omega)
    have hw : wrap64 ((i : Int) + 1) = ((i + 1 : Nat) : Int) := by unfold wrap64; omega
    have e : ((i + 1 + m : Nat) : Int) = ((i + (m + 1) : Nat) : Int) := by omega
    rw [e] at ih
    conv => lhs; unfold backup_little.l0
    rw [if_pos (by omega), if_pos (by omega), hw, ih]
    simp [leB]
theorem little_is (m : Nat) (l : List Int) (x : Int) (h : l.length + m ≤ 140737488355328) : backup_little.f (m + 1) l m x = some (l ++ leB m x) := by
  have := little_at m 0 l x h (by omega)
  simpa [backup_little.f] using this
theorem Ob.below {w0 W W2 : World} {v : Value} {out : List Int} (h : Ob w0 W v out) (hb : Below W.heap.size W W2) : Ob w0 W2 v out := Kd.R_below h hb
theorem little_call (w0 W : World) (v : Value) (out : List Int) (m : Nat) (x : Int) (hB : Below w0.heap.size w0 W) (ho : Ob w0 W v out) (hm : m ≤ 8) (hl : out.length ≤ 1000000) :
    Calls Try.prog 18 #[v, .int .i64 m, .int .u64 x] W fun e w' => ∃ v', e = .returned v' ∧ Ob w0 w' v' (out ++ leB m x) ∧ Below w0.heap.size w0 w' := by
  refine (backup_little.calls (m + 1) _ v out m x _ w0 W hB ho (little_is m out x (by omega))).mono ?_
  rintro e w' ⟨v', rfl, h1, h2, h3⟩
  exact ⟨v', rfl, Kd.R_mono h1 (fun k hk => hk.elim id (fun h => Nat.le_trans hB.size h)), h2⟩
theorem little8 (w0 W : World) (v : Value) (out : List Int) (x : Int) (hB : Below w0.heap.size w0 W) (ho : Ob w0 W v out) (hl : out.length ≤ 1000000) :
    Calls Try.prog 18 #[v, .int .i64 8, .int .u64 x] W fun e w' => ∃ v', e = .returned v' ∧ Ob w0 w' v' (out ++ leB 8 x) ∧ Below w0.heap.size w0 w' := little_call w0 W v out 8 x hB ho (by omega) hl
theorem little4 (w0 W : World) (v : Value) (out : List Int) (x : Int) (hB : Below w0.heap.size w0 W) (ho : Ob w0 W v out) (hl : out.length ≤ 1000000) :
    Calls Try.prog 18 #[v, .int .i64 4, .int .u64 x] W fun e w' => ∃ v', e = .returned v' ∧ Ob w0 w' v' (out ++ leB 4 x) ∧ Below w0.heap.size w0 w' := little_call w0 W v out 4 x hB ho (by omega) hl
set_option maxHeartbeats 1000000 in
theorem write_no (A : Option Addr) (c : Nat) (l : List Int) (w : World) (hn : l.length ≤ 140737488351232) (hm : mayB l.length = false) :
    Calls Try.prog 8 #[.slice A l.length c] w fun e w' => e = .returned (.tuple #[.slice none 0 0, .int .i64 1]) ∧ Below w.heap.size w w' := by
  go_enter Try.func8, Try.ntmps8
  go_wp2
  go_step3
  go_wp2_with (go_at_call 15; refine (backup_may.calls _ false _ (by rw [may_is _ (by omega), hm])).mono ?_; rintro e w' ⟨rfl, hd⟩; obtain ⟨nd, rfl⟩ := hd.out)
  try rw [Exit.noGoto_ret]
  go_ret2
  exact ⟨rfl, pw_below_drewN (Below.refl _ w) _⟩
set_option maxRecDepth 100000 in
set_option maxHeartbeats 2000000 in
theorem write_yes (A : Option Addr) (c : Nat) (l : List Int) (w : World) (hr : Kd.C (Kd.int .u64) w A l.length l) (hc : l.length ≤ c) (hn : l.length ≤ 140737488351232) (hm : mayB l.length = true) :
    Calls Try.prog 8 #[.slice A l.length c] w fun e w' => ∃ v, e = .returned (.tuple #[v, .int .i64 0]) ∧ Ob w w' v (fullB l) ∧ Below w.heap.size w w' := by
  have hm2 : 8 ≤ l.length ∧ l.length ≤ 16384 := by simp [mayB] at hm; omega
  have hl1 : l.length ≤ 16384 := hm2.2
  have Hm2 := Aside0.mk hm2
  clear hm2
  have kc : ∀ (nd : Nat) (C : Array Value) (n c : Nat), (convert 24 24 (.slice (some ⟨w.heap.size, 0, none⟩) n c)).run Try.prog ((w.drewN nd).alloc (.cells C 5)) = .ok (.slice (some ⟨w.heap.size, 0, none⟩) n c) ((w.drewN nd).alloc (.cells C 5 (C.size, C.size + 1))) :=
    fun nd C n c => Lib.run_convert_bytes_const (P := Try.prog) (w.drewN nd) 24 5 C n c Try.underlying24 Try.underlying5
  have hfull : ∃ R, R = fullB l := ⟨_, rfl⟩
  obtain ⟨R, hR⟩ := hfull
  rw [← hR]
  have HR := Lib.hid hR
  clear hR
  go_enter Try.func8, Try.ntmps8
  go_wp2
  go_step3
  go_wp2_with (first | (go_at_call 15; refine (backup_may.calls _ true _ (by rw [may_is _ (by omega), hm])).mono ?_; rintro e w' ⟨rfl, hd⟩; obtain ⟨nd, rfl⟩ := hd.out; clear hd) | (go_at_call 16; refine (number_any2 w _ _ [84, 82, 78, 67] l.length ?cb (of_letters w (w.drewN nd) _) (by omega) (by omega) (by simp)).mono ?_; (case cb => exact below_alloc (pw_below_drewN (Below.refl _ w) _) _); rintro e w1 ⟨v1, rfl, ho1, hb1⟩))
  clear kc
  have hlen : ([84, 82, 78, 67] ++ numB 9 (l.length : Int)).length ≤ 13 := by have := numB_len 9 (l.length : Int); simp; omega
  have HLEN := Aside0.mk hlen
  clear hlen
  go_step3
  go_wp2
  go_loopg [4, 5] (l.length + 1) (fun kq v4 v5 wr => ∃ (o2 l2 : List Int) (A2 : Option Addr) (c2 : Nat), v5 = .slice A2 l2.length c2 ∧ Kd.C (Kd.int .u64) w A2 l2.length l2 ∧ l2.length ≤ c2 ∧ l2.length ≤ 16384 ∧ Aside0 (l2 ≠ [] ∧ l2.length < kq ∧ o2 ++ runsB kq l2 = headB l) ∧ Aside0 (o2.length + 26 * l2.length ≤ 13 + 26 * 16384) ∧ Aside0 (Ob w wr v4 o2) ∧ Aside0 (Below w.heap.size w wr))
  case atStart => exact ⟨_, l, A, c, rfl, hr, hc, hl1, ⟨fun e => by have := Hm2.out; rw [e] at this; simp at this, by omega, rfl⟩, ⟨by have := HLEN.out; omega⟩, ⟨ho1⟩, ⟨hb1⟩⟩
  case round =>
    clear ho1 hb1 HLEN
    obtain ⟨o2, l2, A2, c2, rfl, hC2, hl2, hl2b, HA, HL, HO, HB⟩ := hrel
    cases gk with
    | zero => exact absurd HA.out.2.1 (by omega)
    | succ k =>
      obtain ⟨wo, rfl⟩ : ∃ wo : World, wo = wr := ⟨_, rfl⟩
      have hE := HA.out.2.2
      have HK := Aside0.mk (And.intro HA.out.1 HA.out.2.1)
      clear HA
      simp only [runsB] at hE
      obtain ⟨z, hz⟩ : ∃ z, z = runL true l2 := ⟨_, rfl⟩
      have hzl : z ≤ l2.length := by rw [hz]; exact runL_le _ _
      have hnx := runL_next l2
      rw [← hz] at hE hnx
      obtain ⟨l3, hl3e⟩ : ∃ l3, l3 = l2.drop z := ⟨_, rfl⟩
      rw [← hl3e] at hE hnx
      have hl3len : l3.length = l2.length - z := by rw [hl3e]; simp
      obtain ⟨o3, ho3e⟩ : ∃ o3, o3 = o2 ++ numB 9 z := ⟨_, rfl⟩
      have HZ := Lib.hid hz
      have HL3E := Lib.hid hl3e
      have HO3E := Lib.hid ho3e
      have hd3 := Lib.hid (Kd.C_drop (c := c2) hC2 hzl hl2)
      rw [← hl3e] at hd3
      have hlo3 : o3.length ≤ o2.length + 9 := by have := numB_len 9 (z : Int); rw [ho3e]; simp; omega
      have HL3 := Aside0.mk (show o3.length + 26 * l2.length ≤ 22 + 26 * 16384 by have := HL.out; omega)
      have HLEN3 := Lib.hid hl3len
      clear hz hl3e ho3e hlo3
      by_cases h3 : l3 = []
      · rw [if_pos h3] at hE
        have HH : o3 = headB l := by rw [HO3E.out, ← hE]; simp
        have HHH := Lib.hid HH
        have hz2 : z = l2.length := by rw [h3] at hl3len; simp at hl3len; omega
        have HLF := HL3
        have b1 : ((l2.length - z : Nat) == 0) = true := by simp; omega
        have HZ2 := Lib.hid hz2
        clear hE HH h3 hl3len hz2
        by_cases hcz : c2 = z
        · replace hcz := hcz.symm
          subst hcz
          go_wp2_with (first | (go_at_call 17; (with_reducible refine (run_any true A2 _ l2 _ (Kd.C_below hC2 HB.out) hl2 (by omega)).mono ?_); rw [← HZ.out]; rintro e w2 ⟨rfl, hb2⟩; have HO2 := Aside0.mk (Ob.below HO.out hb2); have HB2 := Aside0.mk (HB.out.trans (hb2.mono HB.out.size)); clear HO HB hb2) | (go_at_call 16; refine (number_any2 w _ _ o2 z HB2.out (of_ob HO2.out) (by omega) (by omega) (by have := HL.out; omega)).mono ?_; rw [← HO3E.out]; rintro e w3 ⟨v3, rfl, ho3, hb3⟩; obtain ⟨A3, c3, rfl⟩ := Kd.R_slice ho3; have HOF := Aside0.mk ho3; have HBF := Aside0.mk hb3; clear HO2 HB2 ho3 hb3) | (go_at_call 19; refine (bytes_any _ _ o3 _ (Kd.R_reads' HOF.out).2.2 (Kd.R_reads' HOF.out).2.1 (by have := HLF.out; omega)).mono ?_; rintro e w' ⟨rfl, hd⟩; obtain ⟨ndf, rfl⟩ := hd.out; clear hd) | (go_at_call 18; refine (little4 w _ _ o3 _ (pw_below_drewN HBF.out _) (Kd.R_drewN HOF.out _) (by have := HLF.out; omega)).mono ?_; rintro e w9 ⟨v9, rfl, ho9, hb9⟩))
          try rw [Exit.noGoto_ret]
          go_ret2
          exact ⟨v9, rfl, by rw [HR.out]; unfold fullB; rw [← HHH.out]; exact ho9, hb9⟩
        · go_wp2_with (first | (go_at_call 17; (with_reducible refine (run_any true A2 _ l2 _ (Kd.C_below hC2 HB.out) hl2 (by omega)).mono ?_); rw [← HZ.out]; rintro e w2 ⟨rfl, hb2⟩; have HO2 := Aside0.mk (Ob.below HO.out hb2); have HB2 := Aside0.mk (HB.out.trans (hb2.mono HB.out.size)); clear HO HB hb2) | (go_at_call 16; refine (number_any2 w _ _ o2 z HB2.out (of_ob HO2.out) (by omega) (by omega) (by have := HL.out; omega)).mono ?_; rw [← HO3E.out]; rintro e w3 ⟨v3, rfl, ho3, hb3⟩; obtain ⟨A3, c3, rfl⟩ := Kd.R_slice ho3; have HOF := Aside0.mk ho3; have HBF := Aside0.mk hb3; clear HO2 HB2 ho3 hb3) | (go_at_call 19; refine (bytes_any _ _ o3 _ (Kd.R_reads' HOF.out).2.2 (Kd.R_reads' HOF.out).2.1 (by have := HLF.out; omega)).mono ?_; rintro e w' ⟨rfl, hd⟩; obtain ⟨ndf, rfl⟩ := hd.out; clear hd) | (go_at_call 18; refine (little4 w _ _ o3 _ (pw_below_drewN HBF.out _) (Kd.R_drewN HOF.out _) (by have := HLF.out; omega)).mono ?_; rintro e w9 ⟨v9, rfl, ho9, hb9⟩))
          try rw [Exit.noGoto_ret]
          go_ret2
          exact ⟨v9, rfl, by rw [HR.out]; unfold fullB; rw [← HHH.out]; exact ho9, hb9⟩
      · rw [if_neg h3] at hE
        have hn0 := hnx h3
        have h3p : 0 < l3.length := List.length_pos_iff.2 h3
        have hcz : ¬ c2 = z := by omega
        have hC3 := hd3.out
        rw [if_neg hcz] at hC3
        obtain ⟨ad2, rfl, _⟩ := hC2.2.2 (by omega)
        replace hC3 : (Kd.int .u64).C w (some (ad2.add z)) l3.length l3 := by simpa [Kd.int, Kd.scalar] using hC3
        have hl3c : l3.length ≤ c2 - z := by omega
        obtain ⟨n, hn⟩ : ∃ n, n = runL false l3 := ⟨_, rfl⟩
        have hnl : n ≤ l3.length := by rw [hn]; exact runL_le _ _
        rw [← hn] at hE hn0
        obtain ⟨l4, hl4e⟩ : ∃ l4, l4 = l3.drop n := ⟨_, rfl⟩
        have hl4len : l4.length = l3.length - n := by rw [hl4e]; simp
        rw [← hl4e] at hE
        obtain ⟨o4, ho4e⟩ : ∃ o4, o4 = o3 ++ numB 9 n := ⟨_, rfl⟩
        have HN := Lib.hid hn
        have HL4E := Lib.hid hl4e
        have HO4E := Lib.hid ho4e
        have hlo4 : o4.length ≤ o3.length + 9 := by have := numB_len 9 (n : Int); rw [ho4e]; simp; omega
        have hC4 := Lib.hid (Kd.C_take hC3 hnl)
        have hd4 := Lib.hid (Kd.C_drop (c := c2 - z) hC3 hnl hl3c)
        rw [← hl4e] at hd4
        have HLO4 := Aside0.mk hlo4
        have HE := Lib.hid (show o4 ++ ((l3.take n).flatMap (leB 8) ++ (if l4 = [] then [] else runsB k l4)) = headB l by rw [ho4e, HO3E.out, ← hE]; simp)
        have HL4 := Lib.hid hl4len
        have b1 : ((l2.length - z : Nat) == 0) = false := by simp; omega
        have hz2 : z ≤ l2.length - 1 := by omega
        have hn16 : n ≤ 16384 := by omega
        have hnc : n ≤ c2 - z := by omega
        have hl3b : l2.length - z ≤ c2 - z := by omega
        have hn3 : n ≤ l2.length - z := by omega
        clear hn hl4e ho4e hlo4 hl4len hE h3 hnx hl3len hd3
        go_wp2_with (first | (go_at_call 17; (with_reducible refine (run_any true (some ad2) _ l2 _ (Kd.C_below hC2 HB.out) hl2 (by omega)).mono ?_); rw [← HZ.out]; rintro e w2 ⟨rfl, hb2⟩; have HO2 := Aside0.mk (Ob.below HO.out hb2); have HB2 := Aside0.mk (HB.out.trans (hb2.mono HB.out.size)); clear HO HB hb2) | (go_at_call 16; (with_reducible refine (number_any2 w _ _ o2 z HB2.out (of_ob HO2.out) (by omega) (by omega) (by have := HL.out; omega)).mono ?_); rw [← HO3E.out]; rintro e w3 ⟨v3, rfl, ho3, hb3⟩; have HO3 := Aside0.mk ho3; have HB3 := Aside0.mk hb3; clear HO2 HB2 ho3 hb3) | (go_at_call 17; (with_reducible refine (run_any2 false _ _ _ l3 _ (Kd.C_below hC3 HB3.out) HLEN3.out (by omega) (by omega)).mono ?_); rw [← HN.out]; rintro e w2 ⟨rfl, hb2⟩; have HO4 := Aside0.mk (Ob.below HO3.out hb2); have HB4 := Aside0.mk (HB3.out.trans (hb2.mono HB3.out.size)); clear HO3 HB3 hb2) | (go_at_call 16; (with_reducible refine (number_any2 w _ _ o3 n HB4.out (of_ob HO4.out) (by omega) (by omega) (by have := HL3.out; omega)).mono ?_); rw [← HO4E.out]; rintro e w3 ⟨v3, rfl, ho3, hb3⟩; have HO5 := Aside0.mk ho3; have HB5 := Aside0.mk hb3; clear HO4 HB4 ho3 hb3))
        have hcell : ∀ j, j < n → w.cell? ((ad2.add z).add j) = some (.int .u64 (l3.getD j 0)) := fun j hj => by
          obtain ⟨ad, e, h⟩ := Kd.at_int hC3 (j : Int) (by omega) (by omega)
          injection e with e
          subst e
          simpa [rd] using h
        have HCELL := Aside0.mk hcell
        have HLEN3N := Aside0.mk (show n ≤ l3.length from hnl)
        clear hcell hnl
        go_loopg [4, 40] n (fun kq v4 v40 wi => ∃ (j : Nat) (o5 : List Int), v40 = .int .i64 j ∧ Aside0 (j + kq = n ∧ o5 = o4 ++ (l3.take j).flatMap (leB 8)) ∧ Aside0 (o5.length = o4.length + 8 * j) ∧ Aside0 (Ob w wi v4 o5) ∧ Aside0 (Below w.heap.size w wi))
        case atStart => exact ⟨0, o4, rfl, ⟨by omega, by simp⟩, ⟨by omega⟩, HO5, HB5⟩
        case round =>
          clear HO5 HB5
          obtain ⟨j, o5, rfl, HA, HI, HO, HB⟩ := hrel
          cases gk with
          | succ kk =>
            have hj : j < n := by have := HA.out.1; omega
            have c0 : decide (j < n) = true := by simp; omega
            have hcell := pw_cell_below HB.out (HCELL.out j hj)
            obtain ⟨x, hx⟩ : ∃ x, x = l3.getD j 0 := ⟨_, rfl⟩
            rw [← hx] at hcell
            have hlj : j < l3.length := by have := HLEN3N.out; omega
            have HX := Lib.hid (show o5 ++ leB 8 x = o4 ++ (l3.take (j + 1)).flatMap (leB 8) by
              rw [HA.out.2, flat_take l3 j hlj, hx, List.append_assoc])
            clear hx
            go_wp2_with (go_at_call 18; (with_reducible refine (little8 w _ _ o5 x HB.out HO.out (by have := HI.out; have := HLO4.out; have := HL3.out; omega)).mono ?_); rintro e w6 ⟨v6, rfl, ho6, hb6⟩; have HO6 := Aside0.mk ho6; have HB6 := Aside0.mk hb6; clear ho6 hb6)
            go_roundg kk
            case measure => omega
            case rel => exact ⟨j + 1, _, by go_num, ⟨by have := HA.out.1; omega, HX.out⟩, ⟨by have := HI.out; simp [leB_len]; omega⟩, HO6, HB6⟩
          | zero =>
            have hj : j = n := by have := HA.out.1; omega
            have HJ := Lib.hid hj
            have c0 : decide (j < n) = false := by simp; omega
            obtain ⟨A5, c5, rfl⟩ := Kd.R_slice HO.out
            have HOF : Aside0 (Ob w wr (.slice A5 o5.length c5) o5) := HO
            have HBF := HB
            have HLF := Aside0.mk (show o5.length ≤ 900000 by have := HI.out; have := HLO4.out; have := HL3.out; omega)
            have HO5E := Lib.hid (show o5 = o4 ++ (l3.take n).flatMap (leB 8) by rw [← hj]; exact HA.out.2)
            have hlo3 : o3.length ≤ o2.length + 9 := by rw [HO3E.out, List.length_append]; have h9 := numB_len 9 (z : Int); omega
            have HLO5 := Aside0.mk (show o5.length + 26 * (l2.length - z - n) ≤ 13 + 26 * 16384 by have := HI.out; have := HLO4.out; have := HL.out; omega)
            clear hlo3
            clear hj HO HB
            have hlen4 := Lib.hid (show l4.length = l2.length - z - n by have := HL4.out; have := HLEN3.out; omega)
            by_cases h4 : l2.length - z - n = 0
            · have b2 : ((l2.length - z - n : Nat) == 0) = true := by simp; omega
              have h4e : l4 = [] := List.length_eq_zero_iff.1 (by rw [hlen4.out]; exact h4)
              have HHH := Lib.hid (show o5 = headB l by rw [HO5E.out, ← HE.out, if_pos h4e]; simp)
              clear h4e h4
              go_wp2_with (first | (go_at_call 19; refine (bytes_any _ _ o5 _ (Kd.R_reads' HOF.out).2.2 (Kd.R_reads' HOF.out).2.1 (by have := HLF.out; omega)).mono ?_; rintro e w' ⟨rfl, hd⟩; obtain ⟨ndf, rfl⟩ := hd.out; clear hd) | (go_at_call 18; refine (little4 w _ _ o5 _ (pw_below_drewN HBF.out _) (Kd.R_drewN HOF.out _) (by have := HLF.out; omega)).mono ?_; rintro e w9 ⟨v9, rfl, ho9, hb9⟩))
              all_goals
                try rw [Exit.noGoto_ret]
                go_ret2
                exact ⟨v9, rfl, by rw [HR.out]; unfold fullB; rw [← HHH.out]; exact ho9, hb9⟩
            · have b2 : ((l2.length - z - n : Nat) == 0) = false := by simp; omega
              have h4e : l4 ≠ [] := fun e => by have := hlen4.out; rw [e] at this; simp at this; omega
              have hcn : ¬ c2 - z = n := by omega
              have HHH := Lib.hid (show o5 ++ runsB k l4 = headB l by rw [HO5E.out, ← HE.out, if_neg h4e]; simp)
              have H4E := Aside0.mk h4e
              have hC5 := hd4.out
              rw [if_neg hcn] at hC5
              replace hC5 : (Kd.int .u64).C w (some ((ad2.add z).add n)) l4.length l4 := by simpa [Kd.int, Kd.scalar] using hC5
              have hkk := Aside0.mk (show l4.length < k by have := hlen4.out; have := HK.out.2; omega)
              have hl4c := Aside0.mk (show l4.length ≤ c2 - z - n ∧ l4.length ≤ 16384 by have := hlen4.out; omega)
              clear h4e h4
              go_wp2_with fail
              go_roundg k
              case measure => omega
              case rel =>
                refine ⟨o5, l4, _, _, ?_, hC5, hl4c.out.1, hl4c.out.2, ⟨H4E.out, hkk.out, HHH.out⟩, ⟨by rw [hlen4.out]; exact HLO5.out⟩, HOF, HBF⟩
                rw [hlen4.out]
end Go.Proofs.Ytanelaajdajjnaa
