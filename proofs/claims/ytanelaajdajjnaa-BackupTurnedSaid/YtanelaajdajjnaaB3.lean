/- Contract of the backup's word: the number that eight bytes make, by slices.Backward. Conditions: none. -/
import Derived.Test.YtanelaajdajjnaaB2
import Derived.RangeFuncNested
import Derived.RangeFuncBound
import Derived.RangeFuncCalls
import Derived.RangeFuncLeaves
import Derived.Shelf.Abstract
import Derived.Shelf.RegionOpen
import Derived.OwnWalkIn
import Derived.TacticsInMore
import Derived.LoopNIn
import Derived.LoopIn
namespace Go.Proofs.Ytanelaajdajjnaa
open Go.RowKit Go.Shelf Go.Proofs.YtanelaajdajjnaaW.PrintWords Go.Proofs.YtanelaajdajjnaaW.PrintLast Go.Proofs.YtanelaajdajjnaaW.PrintMore
set_option linter.unusedVariables false
set_option linter.unusedSimpArgs false
attribute [local go_sem] Oper.semAt_some

theorem C_flat {k : IntKind} {w : World} {A : Option Addr} {n : Nat} {xs : List Int} (h : (Kd.int k).C w A n xs) (hn : 0 < n) :
    ∃ b off, A = some ⟨b, off, none⟩ ∧ b < w.heap.size ∧ ∀ j, j < n → w.cell? ⟨b, off + j, none⟩ = some (.int k (xs[j]?.getD 0)) := by
  have hj : ∀ j, j < n → ∃ ad, A = some ad ∧ w.cell? (ad.add j) = some (.int k (xs[j]?.getD 0)) := by
    intro j hj
    obtain ⟨ad, e, hc⟩ := Kd.at_int h (j : Int) (by omega) (by omega)
    exact ⟨ad, e, by simpa [rd, List.getD_eq_getElem?_getD] using hc⟩
  obtain ⟨⟨b, off, spot⟩, rfl, h0⟩ := hj 0 hn
  have hs : spot = none := by
    cases spot with
    | none => rfl
    | some s =>
      simp only [Addr.add, if_true, World.cell?, Option.isSome_some] at h0
      split at h0 <;> simp at h0
  subst hs
  refine ⟨b, off, rfl, World.block_lt_of_cell? w _ h0, fun j hjn => ?_⟩
  obtain ⟨ad, e, hc⟩ := hj j hjn
  injection e with e
  subst e
  have e : (⟨b, off, none⟩ : Addr).add j = ⟨b, off + j, none⟩ := by
    unfold Addr.add
    split
    · simp_all
    · rfl
  rwa [e] at hc

/-- Old blocks below n₀ but X stay. -/
def KpX (X n₀ : Nat) (A B : World) : Prop := ∀ k, k < n₀ → k ≠ X → B.heap[k]? = A.heap[k]?
theorem KpX.refl (X n₀ : Nat) (A : World) : KpX X n₀ A A := fun _ _ _ => rfl
theorem KpX.t {X n₀ : Nat} {A B C : World} (h : KpX X n₀ A B) (k : KpX X n₀ B C) : KpX X n₀ A C := fun i h1 h2 => (k i h1 h2).trans (h i h1 h2)
theorem KpX.b {X n₀ : Nat} {w : World} (hn : n₀ ≤ w.heap.size) (W : World) (l : Nat) (o o' : Obj) (hl : w.heap.size ≤ l) (h : W.heap[l]? = some o) (_ : o.isCells = false) (_ : o.isWalk = false) : KpX X n₀ W (W.putObj l o') :=
  fun k h1 _ => (grownBy_putObj' W l o').block k (by have := (Array.getElem?_eq_some_iff.1 h).1; omega) (fun e => by cases e; omega)
theorem KpX.cell {X n₀ : Nat} {A B : World} (h : KpX X n₀ A B) {p : Addr} (h1 : p.block < n₀) (h2 : p.block ≠ X) : B.cell? p = A.cell? p := World.cell?_of_block (h p.block h1 h2)

set_option maxRecDepth 100000 in
set_option maxHeartbeats 2000000 in
theorem back1_in (F : Fence) (n : Nat) (h8 : F.fn 34) (hro : F.round = none) (hn : 1 ≤ n) (L Bs X n₀ b off cap : Nat) (l : List Int) (hreach : l.length ≤ 140737488351232) (hb : b < n₀) (hbX : b ≠ X) (hs : Bs < n₀) (hsX : Bs ≠ X) (J Jx : List (Nat × Int) → World → Prop)
    (hY : ∀ pre x W, J pre W → pre.length < l.length → YieldAt F (n - 1) Try.prog L #[.int .i64 (x.1 : Int), .int .u8 x.2] W fun e W' =>
      (e = .returned (.bool true) ∧ J (pre ++ [x]) W' ∧ KpX X n₀ W W') ∨ (e = .returned (.bool false) ∧ Jx (pre ++ [x]) W'))
    (W : World) (hBs : W.cell? ⟨Bs, 0, none⟩ = some (.slice (some ⟨b, off, none⟩) l.length cap)) (hc : ∀ j, j < l.length → W.cell? ⟨b, off + j, none⟩ = some (.int .u8 (l[j]?.getD 0))) (h0 : J [] W) :
    CallsIn F n Try.prog 34 #[.func (.yield L) #[] #[], .pointer (some ⟨Bs, 0, none⟩)] W fun e W' => (∃ v, e = .returned v) ∧
      ((∃ ys, ys = backs l l.length ∧ J ys W') ∨ (∃ pre, (∃ k, k ≤ l.length ∧ pre = backs l k) ∧ Jx pre W')) := by
  refine callsIn_of_wp Try.func34 rfl h8 ?_ hro
  simp only [Try.ntmps34, List.size_toArray, List.length_cons, List.length_nil, Nat.reduceAdd, Nat.reduceSub, Array.replicate_succ, Array.replicate_zero, List.push_toArray, List.append_toArray, List.nil_append, List.cons_append]
  gi_wp2
  gi_loopw [3] (fun i wr => ∃ k : Nat, k ≤ l.length ∧ i = .int .i64 ((l.length : Int) - 1 - k) ∧ J (backs l k) wr ∧ KpX X n₀ W wr)
    (fun i _ => (intOf i + 1).toNat)
  case atStart => exact ⟨0, Nat.zero_le _, by simp, h0, KpX.refl _ _ _⟩
  case round =>
    obtain ⟨k, hk, rfl, hJs, hnx⟩ := hrel
    have hBs' := (hnx.cell (p := ⟨Bs, 0, none⟩) hs hsX).trans hBs
    by_cases hlt : k < l.length
    · obtain ⟨i, hi⟩ : ∃ i : Nat, i = l.length - 1 - k := ⟨_, rfl⟩
      have hil : i < l.length := by omega
      have hsuc := Lib.hid (backs_succ l k)
      rw [← hi] at hsuc
      have hii : ((l.length : Int) - 1 - k) = (i : Int) := by omega
      have hkk := Lib.hid (show l.length = i + k + 1 by omega)
      rw [hii]
      clear hii hi
      have hcx := (hnx.cell (p := ⟨b, off + i, none⟩) hb hbX).trans (hc i hil)
      obtain ⟨x, hx⟩ : ∃ x : Int, x = l[i]?.getD 0 := ⟨_, rfl⟩
      rw [← hx] at hsuc hcx
      clear hx
      obtain ⟨fn, tmps, assign, body, hy, hR⟩ := hY _ (i, x) wr hJs (by rw [backs_length]; exact hlt)
      dsimp only at hy
      gi_wp2
      refine hR.mono ?_
      rintro e W3 (⟨rfl, hJ3, hk3⟩ | ⟨rfl, hJx3⟩)
      · gi_wp2
        go_roundw
        case rel => exact ⟨k + 1, by omega, by have := hkk.out; simp; omega, by rw [hsuc.out]; exact hJ3, hnx.t hk3⟩
        case measure => simp [intOf]
      · gi_wp2
        refine bodyPost_ret (results_none rfl _ _ _) rfl ?_
        exact ⟨⟨_, rfl⟩, .inr ⟨_, ⟨k + 1, by omega, hsuc.out.symm⟩, hJx3⟩⟩
    · obtain rfl : k = l.length := by omega
      gi_wp2
      go_end0
      exact ⟨⟨_, rfl⟩, .inl ⟨_, rfl, hJs⟩⟩

set_option maxHeartbeats 1000000 in
theorem backward_in (F : Fence) (n : Nat) (h5 : F.fn 33) (hro : F.round = none) (a : Option Addr) (len cap : Nat) (w : World) :
    CallsIn F n Try.prog 33 #[.slice a len cap] w fun e w' => e = .returned (.func (.func 34) #[] #[.pointer (some ⟨w.heap.size, 0, none⟩)]) ∧ w' = w.alloc (.cells #[.slice a len cap] 24) := by
  refine callsIn_of_wp Try.func33 rfl h5 ?_ hro
  simp only [Try.ntmps33, List.size_toArray, List.length_cons, List.length_nil, Nat.reduceAdd, Nat.reduceSub, Array.replicate_succ, Array.replicate_zero, List.push_toArray, List.append_toArray, List.nil_append, List.cons_append]
  gi_wp2
  go_ret
  exact ⟨rfl, rfl⟩
theorem back_stops (F : Fence) (n : Nat) (h8 : F.fn 34) (hro : F.round = none) (hn : 1 ≤ n) (Bs X n₀ b off cap : Nat) (l : List Int) (hreach : l.length ≤ 140737488351232) (hb : b < n₀) (hbX : b ≠ X) (hs : Bs < n₀) (hsX : Bs ≠ X) (w : World) (hn₀ : n₀ ≤ w.heap.size)
    (hBs : w.cell? ⟨Bs, 0, none⟩ = some (.slice (some ⟨b, off, none⟩) l.length cap)) (hc : ∀ j, j < l.length → w.cell? ⟨b, off + j, none⟩ = some (.int .u8 (l[j]?.getD 0))) :
    SeqStopsK F n Try.prog 34 #[.pointer (some ⟨Bs, 0, none⟩)] (fun x : Nat × Int => #[Value.int .i64 (x.1 : Int), Value.int .u8 x.2]) (KpX X n₀) (fun ys => ys = backs l l.length)
      (fun pre => ∃ k, k ≤ l.length ∧ pre = backs l k) l.length w := fun L J Jx W hW _ _ hY h0 =>
  back1_in F n h8 hro hn L Bs X n₀ b off cap l hreach hb hbX hs hsX J Jx hY W ((hW.cell (p := ⟨Bs, 0, none⟩) (Nat.lt_of_lt_of_le hs hn₀)).trans hBs) (fun j hj => (hW.cell (p := ⟨b, off + j, none⟩) (Nat.lt_of_lt_of_le hb hn₀)).trans (hc j hj)) h0

set_option maxRecDepth 100000 in
set_option maxHeartbeats 2000000 in
theorem word_in (F : Fence) (n : Nat) (h3 : F.fn 32) (h5 : F.fn 33) (h7 : F.fn 34) (hro : F.round = none) (hn : 3 ≤ n) (b off cap : Nat) (l : List Int) (hreach : l.length ≤ 140737488351232) (w : World) (hb : b < w.heap.size)
    (hc : ∀ j, j < l.length → w.cell? ⟨b, off + j, none⟩ = some (.int .u8 (l[j]?.getD 0))) :
    CallsIn F n Try.prog 32 #[.slice (some ⟨b, off, none⟩) l.length cap] w fun e W' => e = .returned (.int .u64 (foldV (backs l l.length))) ∧ Below w.heap.size w W' := by
  have h1 : 1 ≤ n := by omega
  refine callsIn_of_wp_marks Try.func32 rfl h3 ?_ hro
  simp only [Try.ntmps32, List.size_toArray, List.length_cons, List.length_nil, Nat.reduceAdd, Nat.reduceSub, Array.replicate_succ, Array.replicate_zero, List.push_toArray, List.append_toArray, List.nil_append, List.cons_append]
  gi_wp2_with (gi_at_call 33; refine (backward_in F (n - 1) h5 hro _ _ _ _).mono ?_; rintro e w' ⟨rfl, rfl⟩)
  have bX := Boxed.new w 41 (.int .u64 0)
  have bN := Boxed.new (w.alloc (.cells #[.int .u64 0] 41)) 24 (.slice (some ⟨b, off, none⟩) l.length cap)
  rw [World.size_alloc] at bN
  have hB0 : Below w.heap.size w ((w.alloc (.cells #[.int .u64 0] 41)).alloc (.cells #[.slice (some ⟨b, off, none⟩) l.length cap] 24)) := ((Below.refl _ w).alloc (Nat.le_refl _) _).alloc (by simp) _
  refine wpIn_rangeFunc_ownG hro h1 (gf := 34) (lb := #[.pointer (some ⟨w.heap.size + 1, 0, none⟩)]) rfl h7 (enters_of Try.func34 (by kernel_rfl) rfl)
    (back_stops F (n - 1) h7 hro (by omega) (w.heap.size + 1) w.heap.size (w.heap.size + 2) b off cap l hreach (by omega) (by omega) (by omega) (by omega) _ (by simp) bN.cell (fun j hj => (hB0.cell (p := ⟨b, off + j, none⟩) hb).trans (hc j hj))) KpX.t (KpX.b (by simp)) (Below.refl _ _) (fun _ => rfl)
    (fun pre W => (W.cell? ⟨w.heap.size, 0, none⟩ = some (.int .u64 (foldV pre)) ∧ W.frozen? ⟨w.heap.size, 0, none⟩ = false) ∧ Below w.heap.size w W)
    (fun _ _ _ => False)
    (OwnFrom.and (Own.from (fun s A B row hs hg hr => ⟨Go.cell_kept hs.1 hg hr, (Go.frozen_kept hs.1 hg hr).trans hs.2⟩) _) (ownFrom_below (Nat.le_refl _) (by simp; omega)))
    (fun _ _ _ _ _ hs _ _ => hs)
    ⟨⟨(bX.alloc _).cell, (bX.alloc _).frozen⟩, hB0⟩
    (fun x => { tmps := #[.slice (some ⟨b, off, none⟩) l.length cap, undef, .int .u64 0, .pointer (some ⟨w.heap.size, 0, none⟩), undef, .int .u8 x.2, .slice (some ⟨b, off, none⟩) l.length cap, .func (.func 34) #[] #[.pointer (some ⟨w.heap.size + 1, 0, none⟩)], .int .i64 (x.1 : Int), .int .u8 x.2, undef, undef, undef, undef, undef, undef], defers := [] }) ?assign ?body ?done ?stop
  case assign =>
    intro l x W K hK
    gi_wp2
    exact hK
  case body =>
    rintro L pre x W ⟨⟨hc, hf⟩, hB⟩ _
    gi_wp2
    refine ⟨(KeepsOthers.setCell _ _ _).from _, fun k _ hk => Below.heap_setCell W _ _ k hk, ⟨?_, by rw [World.frozen?_setCell]; exact hf⟩, hB.setCell (p := ⟨w.heap.size, 0, none⟩) (Nat.le_refl _) _⟩
    rw [show foldV (pre ++ [x]) = upV (foldV pre) x.2 by simp [foldV]]
    exact World.cell?_setCell_same' _ _ _ (by rw [hc]; rfl)
  case done =>
    rintro D ys W hD rfl ⟨⟨hc, _⟩, hB⟩ hK
    gi_wp2
    refine ⟨by simp, .inl ⟨_, _, rfl, run_takeDeferred hK, ?_⟩⟩
    exact ⟨_, results_tmp rfl _ _ _, rfl, hB.trans (belowK_b (w := w) (Nat.le_refl _) W D _ _ (by simp at hD; omega) hK rfl rfl)⟩
  case stop =>
    rintro D c pre W _ _ h _
    exact h.elim
/-- **word**: the number that bytes of a reader's make. -/
theorem word_any (A : Option Addr) (cap : Nat) (l : List Int) (hl : 0 < l.length) (hreach : l.length ≤ 140737488351232) (w : World) (h : Kd.C (Kd.int .u8) w A l.length l) :
    Calls Try.prog 32 #[.slice A l.length cap] w fun e W' => e = .returned (.int .u64 (wordV l)) ∧ Below w.heap.size w W' := by
  obtain ⟨b, off, rfl, hb, hc⟩ := C_flat h hl
  exact (callsIn_wide (n := 3)).1 (word_in _ 3 trivial trivial trivial rfl (by omega) b off cap l hreach w hb hc)
end Go.Proofs.Ytanelaajdajjnaa
