/- Contract of backup's number behind the four letters, which lie in a row without room. Conditions: none. -/
import Derived.Test.YtanelaajdajjnaaB5
import Derived.Lib.SlBytesConst
namespace Go.Proofs.Ytanelaajdajjnaa
open Go.RowKit Go.Proofs.YtanelaajdajjnaaW.PrintWords Go.Proofs.YtanelaajdajjnaaW.PrintLast Go.Proofs.YtanelaajdajjnaaW.PrintMore
set_option linter.unusedVariables false
set_option linter.unusedSimpArgs false
/-- Bytes that Write has put together, in a row of its own; w0: memory as Write began. -/
abbrev Ob (w0 W : World) (v : Value) (out : List Int) : Prop := Kd.R (Kd.int .u8) 5 W w0.heap.size (fun k => w0.heap.size ≤ k) v out
/-- .. or in a row that is full, and stays as it is. -/
def Of (w0 W : World) (v : Value) (out : List Int) : Prop := Ob w0 W v out ∨ ∃ ad, v = .slice (some ad) out.length out.length ∧ ∀ W', Below W.heap.size W W' → ∀ j, j < out.length → W'.cell? (ad.add j) = some (.int .u8 (out.getD j 0))
theorem of_ob {w0 W : World} {v : Value} {out : List Int} (h : Ob w0 W v out) : Of w0 W v out := .inl h
theorem Of.below {w0 W W2 : World} {v : Value} {out : List Int} (h : Of w0 W v out) (hb : Below W.heap.size W W2) : Of w0 W2 v out := by
  rcases h with h | ⟨ad, e, hc⟩
  · exact .inl (Kd.R_below h hb)
  · exact .inr ⟨ad, e, fun W' hb' => hc W' (hb.trans (hb'.mono hb.size))⟩
theorem info_u8 : (Try.prog.info? 5).map (fun i => (i.zero, i.size, i.bytes)) = some (some (.int .u8 0), 1, 1) := by kernel_rfl
/-- One number behind bytes. -/
theorem of_append {w0 W : World} {ops : Array Oper} {rest : List Oper} {o : Oper} {a : Act} {Q : Exit → Act → World → Prop} (hgd : o.guard = none) (s x : Tmp)
    (ho : o.op = .call { callee := .builtin .append, args := #[.tmp s, .tmp x], argTypes := #[24, 24] })
    (v : Value) (out : List Int) (y : Int) (hs : a.eval (.tmp s) = v) (hx : a.eval (.tmp x) = .slice (some ⟨W.heap.size, 0, none⟩) 1 1) (h : Of w0 W v out) (hB : Below w0.heap.size w0 W) (hl : out.length ≤ 1000000)
    (hk : ∀ v1 w1, Ob w0 w1 v1 (out ++ [y]) → Below w0.heap.size w0 w1 → wpList Try.prog ops Q rest (a.put o.dst v1) w1) :
    wpList Try.prog ops Q (o :: rest) a (W.alloc (.cells #[.int .u8 y] 5)) := by
  rcases h with h | ⟨ad, rfl, hc⟩
  · exact Kd.R_append (Kd.int .u8) (w0 := w0) w0.heap.size hgd _ _ 24 5 (.int .u8 0) 1 ho Try.underlying24 info_u8 rfl (by decide) (by omega) v out y [.int .u8 y] (fun k => w0.heap.size ≤ k) (fun _ => False) hs hx rfl (fun _ h => h.elim) (fun k hk => Nat.le_trans hB.size hk) h hB hB.size (by omega) (fun v1 w1 h1 h2 _ _ => hk v1 w1 h1 h2)
  · obtain ⟨i0, hi, hz0, hz1, hz2⟩ := info_parts info_u8
    refine wpList_append_grows _ hgd (.tmp s) (.tmp x) 24 ho 5 i0 (.int .u8 0) 1 1 Try.underlying24 hi hz0 hz1 hz2 rfl (by decide) (some ad) out.length out.length (nums .u8 out) hs (by simp) (by simp [nums]) ?_ ⟨W.heap.size, 0, none⟩ 1 1 [.int .u8 y] hx rfl ?_ (by simp [Value.oneCell']) (by omega) (by unfold maxLen; omega) (by omega) ?_
    · intro b hb j u hu
      cases hb
      simp only [nums, List.getElem?_map, Option.map_eq_some_iff] at hu
      obtain ⟨z, hz, rfl⟩ := hu
      have hj := (List.getElem?_eq_some_iff.1 hz).1
      have := hc (W.alloc (.cells #[.int .u8 y] 5)) (below_alloc (Below.refl _ _) _) j hj
      rw [this, List.getD_eq_getElem?_getD, hz]; rfl
    · intro j u hu
      have hj := (List.getElem?_eq_some_iff.1 hu).1
      have : j = 0 := by simp at hj; omega
      subst this
      simp at hu
      subst hu
      exact cell_of_blk (blk_new W _)
    · intro v' w' h1 h2
      have hb2 := below_alloc hB (.cells #[.int .u8 y] 5)
      refine hk v' w' (Kd.R_of_own (enc := Value.int .u8) ?_ ?_) (hb2.grown h2 hb2.size (fun k hk => by cases hk))
      · have h3 := own_weaken h1 (show w0.heap.size ≤ (W.alloc (.cells #[.int .u8 y] 5)).heap.size from hb2.size)
        simpa [nums, encs] using h3
      · intro k hk
        have h3 := own_base h1 k hk
        have := hb2.size
        omega
theorem of_letters (w0 W : World) (s : Nat × Nat) : Of w0 (W.alloc (.cells #[.int .u8 84, .int .u8 82, .int .u8 78, .int .u8 67] 5 s)) (.slice (some ⟨W.heap.size, 0, none⟩) 4 4) [84, 82, 78, 67] := by
  refine .inr ⟨_, rfl, fun W' hb j hj => ?_⟩
  have h := blk_below (blk_new W (.cells #[.int .u8 84, .int .u8 82, .int .u8 78, .int .u8 67] 5 s)) hb
  simp only [List.length_cons, List.length_nil] at hj
  rcases (show j = 0 ∨ j = 1 ∨ j = 2 ∨ j = 3 by omega) with rfl | rfl | rfl | rfl <;> simp [Addr.add, World.cell?, h]
set_option maxHeartbeats 1000000 in
theorem number_any2 (w0 W : World) (v : Value) (out : List Int) (n : Int) (hB : Below w0.heap.size w0 W) (ho : Of w0 W v out) (hn0 : 0 ≤ n) (hn : n ≤ 16384) (hl : out.length ≤ 999000) :
    Calls Try.prog 16 #[v, .int .i64 n] W fun e w' => ∃ v', e = .returned v' ∧ Ob w0 w' v' (out ++ numB 9 n) ∧ Below w0.heap.size w0 w' := by
  obtain ⟨R, hR⟩ : ∃ R, R = out ++ numB 9 n := ⟨_, rfl⟩
  rw [← hR]
  have HR := Lib.hid hR
  clear hR
  go_enter Try.func16, Try.ntmps16
  go_wp2
  go_loopg [0, 1] 9 (fun kq v0 v1 wr => ∃ (x : Int) (o2 : List Int), v1 = .int .i64 x ∧ Aside0 (0 ≤ x ∧ x < 128 ^ kq ∧ x ≤ 16384 ∧ o2 ++ numB kq x = R ∧ o2.length + kq ≤ 999009) ∧ Aside0 (Of w0 wr v0 o2) ∧ Aside0 (Below w0.heap.size w0 wr) ∧ 0 < kq)
  case atStart => exact ⟨n, out, rfl, ⟨hn0, by omega, hn, HR.out.symm, by omega⟩, ⟨ho⟩, ⟨hB⟩, by omega⟩
  case round =>
    obtain ⟨x, o2, rfl, HA, HO, HB, h0⟩ := hrel
    cases gk with
    | zero => omega
    | succ k =>
      have hx0 : 0 ≤ x := HA.out.1
      have hx1 : x ≤ 16384 := HA.out.2.2.1
      have hol : o2.length ≤ 1000000 := by have := HA.out.2.2.2.2; omega
      have hE := HA.out.2.2.2.1
      simp only [numB] at hE
      by_cases hx : x < 128
      · rw [if_pos hx] at hE
        have HE := Lib.hid hE
        have HM := Lib.hid (show x % 256 = x by omega)
        have c0 : decide (x ≥ 128) = false := by simp; omega
        clear hE
        go_wp2_with (at_builtin; refine of_append (w0 := w0) rfl 16 19 rfl u0 o2 x rfl rfl HO.out HB.out hol ?_; intro v1 w1 ho1 hb1)
        go_ret
        exact ⟨_, rfl, by rw [← HE.out]; exact ho1, hb1⟩
      · rw [if_neg hx] at hE
        have HE := Lib.hid hE
        have HM := digit_or x hx0 (by omega)
        have c0 : decide (x ≥ 128) = true := by simp; omega
        have HP := Aside0.mk HA.out.2.1
        clear hE
        go_wp2_with (at_builtin; refine of_append (w0 := w0) rfl 7 12 rfl u0 o2 (x % 128 + 128) rfl rfl HO.out HB.out hol ?_; intro v1 w1 ho1 hb1)
        go_roundg k
        case measure => omega
        case rel =>
          refine ⟨x / 128, _, rfl, ⟨by omega, ?_, by omega, by rw [← HE.out]; simp, by have := HA.out.2.2.2.2; simp; omega⟩, ⟨.inl ho1⟩, ⟨hb1⟩, ?_⟩
          · have := HP.out; rw [Int.pow_succ] at this; omega
          · cases k with
            | zero => have := HP.out; simp at this; omega
            | succ k => omega
end Go.Proofs.Ytanelaajdajjnaa
