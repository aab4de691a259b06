/- Contract of backup.Read. Conditions: none. -/
import Derived.Test.YtanelaajdajjnaaB7
namespace Go.Proofs.Ytanelaajdajjnaa
open Go.RowKit Go.Proofs.YtanelaajdajjnaaW.PrintWords Go.Proofs.YtanelaajdajjnaaW.PrintLast Go.Proofs.YtanelaajdajjnaaW.PrintMore
set_option linter.unusedVariables false
set_option linter.unusedSimpArgs false
open PBackupReads
/-- The world in which Read's body begins. -/
abbrev rw0 (w : World) (A : Option Addr) (n c : Nat) : World := ((w.alloc (.cells #[.slice none 0 0] 22)).alloc (.cells #[.int .i64 0] 25)).alloc (.cells #[.slice A n c] 53)
theorem rw0_rd (w : World) (A : Option Addr) (c : Nat) (b : List Int) (hr : Kd.C (Kd.int .u8) w A b.length b) (hc : b.length ≤ c) (hn : b.length ≤ 140737488351232) : Rd w (rw0 w A b.length c) (w.heap.size + 1 + 1) b := by
  refine ⟨⟨A, c, ?_, hc, hn, hr⟩, ?_, by omega⟩
  · have := blk_new ((w.alloc (.cells #[.slice none 0 0] 22)).alloc (.cells #[.int .i64 0] 25)) (.cells #[.slice A b.length c] 53)
    simpa [rw0] using this
  · exact below_alloc (below_alloc (below_alloc (Below.refl _ _) _) _) _
theorem rw0_words (w : World) (A : Option Addr) (n c : Nat) : (rw0 w A n c).heap[w.heap.size]? = some (.cells #[.slice none 0 0] 22 (0, 0)) := blk_alloc _ (blk_alloc _ (blk_new _ _))
theorem rw0_err (w : World) (A : Option Addr) (n c : Nat) : (rw0 w A n c).heap[w.heap.size + 1]? = some (.cells #[.int .i64 0] 25 (0, 0)) := by
  have := blk_new (w.alloc (.cells #[.slice none 0 0] 22)) (.cells #[.int .i64 0] 25)
  exact blk_alloc _ (by simpa using this)
/-- What stands where Read gives up: its two results' cells, and what lay ahead. -/
structure RdS (w W : World) : Prop where
  below : Below w.heap.size w W
  words : ∃ x, W.heap[w.heap.size]? = some (.cells #[x] 22 (0, 0))
  err : ∃ y, W.heap[w.heap.size + 1]? = some (.cells #[y] 25 (0, 0))
theorem RdS.step {w W W2 : World} {S : Nat → Prop} (h : RdS w W) (hF : Frm S W W2) (hS : ∀ k, S k → w.heap.size + 1 < k) : RdS w W2 := by
  obtain ⟨h1, ⟨x, h2⟩, ⟨y, h3⟩⟩ := h
  exact ⟨h1.trans (hF.below h1.size (fun k hk hs => by have := hS k hs; omega)), ⟨x, hF.blk h2 (fun hs => by have := hS _ hs; omega)⟩, ⟨y, hF.blk h3 (fun hs => by have := hS _ hs; omega)⟩⟩
def ReadNo (w : World) (e : Ending) (w' : World) : Prop := e = .returned (.tuple #[.slice none 0 0, .int .i64 11]) ∧ Below w.heap.size w w'
set_option maxHeartbeats 1000000 in
theorem door_no (w W : World) (h : RdS w W) (tmps : Array Value) (h2 : tmps[2]? = some (.pointer (some ⟨w.heap.size, 0, none⟩))) (h3 : tmps[3]? = some (.pointer (some ⟨w.heap.size + 1, 0, none⟩))) :
    bodyPostD Try.prog Try.f10 (ReadNo w) (.panic crpt) { tmps := tmps, defers := [{ target := .fn (.func 20) #[.pointer (some ⟨w.heap.size, 0, none⟩), .pointer (some ⟨w.heap.size + 1, 0, none⟩)], args := #[] }] } W := by
  obtain ⟨h1, ⟨x, hx⟩, ⟨y, hy⟩⟩ := h
  refine leaves_cons (f := 20) (args := #[.pointer (some ⟨w.heap.size, 0, none⟩), .pointer (some ⟨w.heap.size + 1, 0, none⟩)]) (by simp) (by simp [go_sem]) ?_
  refine (catch_panicking w.heap.size (w.heap.size + 1) x y [] W hx hy (by omega)).mono ?_
  rintro e u' w'' ⟨rfl, rfl, rfl⟩
  have k1 := blk_set_other (p := ⟨w.heap.size + 1, 0, none⟩) (u := .int .i64 11) (blk_setCell (u := .slice none 0 0) (blk_alloc (.cells #[] 49) hx)) (by simp)
  have k2 := blk_setCell (u := .int .i64 11) (blk_set_other (p := ⟨w.heap.size, 0, none⟩) (u := .slice none 0 0) (blk_alloc (.cells #[] 49) hy) (by simp))
  have hb : Below w.heap.size w (((W.alloc (.cells #[] 49)).setCell ⟨w.heap.size, 0, none⟩ (.slice none 0 0)).setCell ⟨w.heap.size + 1, 0, none⟩ (.int .i64 11)) := ((h1.alloc h1.size _).setCell (Nat.le_refl _) _).setCell (by simp) _
  generalize (((W.alloc (.cells #[] 49)).setCell ⟨w.heap.size, 0, none⟩ (.slice none 0 0)).setCell ⟨w.heap.size + 1, 0, none⟩ (.int .i64 11)) = W2 at *
  have c1 := cell_of_blk k1
  have c2 := cell_of_blk k2
  simp [Leaves, settle, results, Try.results10, go_sem, h2, h3, c1, c2, ReadNo, hb]
theorem door_yes (w W : World) (v : Value) (R : Ending → World → Prop) (hw : W.heap[w.heap.size]? = some (.cells #[v] 22 (0, 0))) (he : W.heap[w.heap.size + 1]? = some (.cells #[.int .i64 0] 25 (0, 0))) (hR : R (.returned (.tuple #[v, .int .i64 0])) W) (tmps : Array Value) (h2 : tmps[2]? = some (.pointer (some ⟨w.heap.size, 0, none⟩))) (h3 : tmps[3]? = some (.pointer (some ⟨w.heap.size + 1, 0, none⟩))) :
    bodyPostD Try.prog Try.f10 R .ret { tmps := tmps, defers := [{ target := .fn (.func 20) #[.pointer (some ⟨w.heap.size, 0, none⟩), .pointer (some ⟨w.heap.size + 1, 0, none⟩)], args := #[] }] } W := by
  refine leaves_cons (f := 20) (args := #[.pointer (some ⟨w.heap.size, 0, none⟩), .pointer (some ⟨w.heap.size + 1, 0, none⟩)]) (by simp) (by simp [go_sem]) ?_
  refine (catch_idle ⟨w.heap.size, 0, none⟩ ⟨w.heap.size + 1, 0, none⟩ W).mono ?_
  rintro e u' w'' ⟨rfl, rfl, rfl⟩
  have c1 := cell_of_blk hw
  have c2 := cell_of_blk he
  simp [Leaves, settle, results, Try.results10, go_sem, h2, h3, c1, c2, hR]
theorem take4_yes (B : Nat) (l : List Int) (hn : 4 ≤ l.length) (w0 w : World) (hR : Rd w0 w B l) :
    Calls Try.prog 22 #[.pointer (some ⟨B, 0, none⟩), .int .i64 4] w fun e w' => ∃ A, e = .returned (.slice A 4 4) ∧ Kd.C (Kd.int .u8) w0 A 4 (l.take 4) ∧ Rd w0 w' B (l.drop 4) ∧ Frm (· = B) w w' := take_yes B l 4 hn w0 w hR
theorem take4_no (B : Nat) (l : List Int) (hn : ¬ 4 ≤ l.length) (w0 w : World) (h : Rd w0 w B l) :
    Calls Try.prog 22 #[.pointer (some ⟨B, 0, none⟩), .int .i64 4] w fun e w' => e = .panicked crpt ∧ w = w' := take_no B l 4 (by omega) w0 w h
theorem rw0_s (w : World) (A : Option Addr) (n c : Nat) : RdS w (rw0 w A n c) := ⟨below_alloc (below_alloc (below_alloc (Below.refl _ _) _) _) _, ⟨_, rw0_words w A n c⟩, ⟨_, rw0_err w A n c⟩⟩
set_option maxHeartbeats 1000000 in
theorem read_short (A : Option Addr) (c : Nat) (b : List Int) (w : World) (hr : Kd.C (Kd.int .u8) w A b.length b) (hc : b.length ≤ c) (hn : b.length ≤ 140737488351232) (h4 : ¬ 4 ≤ b.length) :
    Calls Try.prog 10 #[.slice A b.length c] w (ReadNo w) := by
  have hmf : ∀ (fn : Fn) (first cap : Array Value) (w : World), (Instr.makeFunc fn first cap).run Try.prog w = .ok (.func fn first cap) w := fun _ _ _ _ => rfl
  have hRd := rw0_rd w A c b hr hc hn
  go_enter_defers Try.func10, Try.ntmps10
  go_wp2_with (go_at_call 22; (with_reducible refine (take4_no _ b h4 w (rw0 w A b.length c) hRd).mono ?_); rintro e w' ⟨rfl, rfl⟩)
  exact door_no w _ (rw0_s w A b.length c) _ rfl rfl
def letB (b : List Int) : Bool := (strOfNums (b.take 4)).toList == [84, 82, 78, 67]
theorem may_any (n : Int) (r : Bool) (w : World) (h : 0 ≤ n) (hr : mayB n = r) : Calls Try.prog 15 #[.int .i64 n] w fun e w' => e = .returned (.bool r) ∧ Drawn0 w w' :=
  backup_may.calls n r w (by rw [may_is n h, hr])
theorem RdS.drewN {w W : World} (h : RdS w W) (n : Nat) : RdS w (W.drewN n) := ⟨pw_below_drewN h.below n, h.words, h.err⟩
theorem Rd.drewN {w0 w : World} {B : Nat} {l : List Int} (h : Rd w0 w B l) (n : Nat) : Rd w0 (w.drewN n) B l := ⟨h.has, pw_below_drewN h.below n, h.base⟩
set_option maxHeartbeats 1000000 in
theorem read_letters (A : Option Addr) (c : Nat) (b : List Int) (w : World) (hr : Kd.C (Kd.int .u8) w A b.length b) (hc : b.length ≤ c) (hn : b.length ≤ 140737488351232) (h4 : 4 ≤ b.length) (hbb : ∀ x ∈ b.drop 4, IsByte x) (hl : letB b = false) :
    Calls Try.prog 10 #[.slice A b.length c] w (ReadNo w) := by
  have hmf : ∀ (fn : Fn) (first cap : Array Value) (w : World), (Instr.makeFunc fn first cap).run Try.prog w = .ok (.func fn first cap) w := fun _ _ _ _ => rfl
  have hRd := rw0_rd w A c b hr hc hn
  have hl' : ((strOfNums (b.take 4)).toList == [84, 82, 78, 67]) = false := hl
  go_enter_defers Try.func10, Try.ntmps10
  go_wp2_with (first | (go_at_call 22; (with_reducible refine (take4_yes _ b h4 w (rw0 w A b.length c) hRd).mono ?_); rintro e w1 ⟨A1, rfl, hC1, hR1, hF1⟩; have hcv := Kd.C_string (P := Try.prog) (src := 24) (dst := 9) (c := 4) Try.underlying24 Try.underlying5 Try.underlying9 (Kd.C_below hC1 hR1.below); have hS1 := (rw0_s w A b.length c).step hF1 (fun k e => by omega); have tok1 : True := trivial) | (go_at_call 21; have _t := tok1; (with_reducible refine (must_no _).mono ?_); rintro e w' ⟨rfl, rfl⟩))
  exact door_no w _ hS1 _ rfl rfl
set_option maxHeartbeats 1000000 in
theorem read_number (A : Option Addr) (c : Nat) (b : List Int) (w : World) (hr : Kd.C (Kd.int .u8) w A b.length b) (hc : b.length ≤ c) (hn : b.length ≤ 140737488351232) (h4 : 4 ≤ b.length) (hbb : ∀ x ∈ b.drop 4, IsByte x) (hl : letB b = true) (hN : numO 9 0 0 (b.drop 4) = none) :
    Calls Try.prog 10 #[.slice A b.length c] w (ReadNo w) := by
  have hmf : ∀ (fn : Fn) (first cap : Array Value) (w : World), (Instr.makeFunc fn first cap).run Try.prog w = .ok (.func fn first cap) w := fun _ _ _ _ => rfl
  have hRd := rw0_rd w A c b hr hc hn
  have hl' : ((strOfNums (b.take 4)).toList == [84, 82, 78, 67]) = true := hl
  have HN := Lib.hid hN
  clear hN
  go_enter_defers Try.func10, Try.ntmps10
  go_wp2_with (first | (go_at_call 22; (with_reducible refine (take4_yes _ b h4 w (rw0 w A b.length c) hRd).mono ?_); rintro e w1 ⟨A1, rfl, hC1, hR1, hF1⟩; have hcv := Kd.C_string (P := Try.prog) (src := 24) (dst := 9) (c := 4) Try.underlying24 Try.underlying5 Try.underlying9 (Kd.C_below hC1 hR1.below); have hS1 := (rw0_s w A b.length c).step hF1 (fun k e => by omega); have tok1 : True := trivial) | (go_at_call 21; have _t := tok1; (with_reducible refine (must_yes _).mono ?_); rintro e w' ⟨rfl, rfl⟩; clear tok1; have tok2 : True := trivial) | (go_at_call 23; (with_reducible refine (number_any _ (b.drop 4) hbb w _ hR1).mono ?_); rw [HN.out]; rintro e w2 ⟨rfl, hF2⟩; have hS2 := hS1.step hF2 (fun k e => by omega)))
  exact door_no w _ hS2 _ rfl rfl
set_option maxHeartbeats 1000000 in
theorem read_may (A : Option Addr) (c : Nat) (b : List Int) (w : World) (hr : Kd.C (Kd.int .u8) w A b.length b) (hc : b.length ≤ c) (hn : b.length ≤ 140737488351232) (h4 : 4 ≤ b.length) (hbb : ∀ x ∈ b.drop 4, IsByte x) (hl : letB b = true) (m : Int) (rest : List Int) (hN : numO 9 0 0 (b.drop 4) = some (m, rest)) (hm0 : 0 ≤ m) (hM : mayB m = false) :
    Calls Try.prog 10 #[.slice A b.length c] w (ReadNo w) := by
  have hmf : ∀ (fn : Fn) (first cap : Array Value) (w : World), (Instr.makeFunc fn first cap).run Try.prog w = .ok (.func fn first cap) w := fun _ _ _ _ => rfl
  have hRd := rw0_rd w A c b hr hc hn
  have hl' : ((strOfNums (b.take 4)).toList == [84, 82, 78, 67]) = true := hl
  have HN := Lib.hid hN
  clear hN
  have HM := Lib.hid hM
  clear hM
  go_enter_defers Try.func10, Try.ntmps10
  go_wp2_with (first | (go_at_call 22; (with_reducible refine (take4_yes _ b h4 w (rw0 w A b.length c) hRd).mono ?_); rintro e w1 ⟨A1, rfl, hC1, hR1, hF1⟩; have hcv := Kd.C_string (P := Try.prog) (src := 24) (dst := 9) (c := 4) Try.underlying24 Try.underlying5 Try.underlying9 (Kd.C_below hC1 hR1.below); have hS1 := (rw0_s w A b.length c).step hF1 (fun k e => by omega); have tok1 : True := trivial) | (go_at_call 21; have _t := tok1; (with_reducible refine (must_yes _).mono ?_); rintro e w' ⟨rfl, rfl⟩; clear tok1; have tok2 : True := trivial) | (go_at_call 23; (with_reducible refine (number_any _ (b.drop 4) hbb w _ hR1).mono ?_); rw [HN.out]; rintro e w2 ⟨rfl, hR2, hF2⟩; have hS2 := hS1.step hF2 (fun k e => by omega)) | (go_at_call 15; (with_reducible refine (may_any m false _ hm0 HM.out).mono ?_); rintro e w' ⟨rfl, hd⟩; obtain ⟨nd, rfl⟩ := hd.out; have hS3 := hS2.drewN nd; have hR3 := hR2.drewN nd; clear hd hR2 hS2) | (go_at_call 21; have _t := tok2; (with_reducible refine (must_no _).mono ?_); rintro e w' ⟨rfl, rfl⟩))
  exact door_no w _ hS3 _ rfl rfl
end Go.Proofs.Ytanelaajdajjnaa
