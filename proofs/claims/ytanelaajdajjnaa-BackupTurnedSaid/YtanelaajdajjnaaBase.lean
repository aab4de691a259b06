/- Words of this seat's own texts: what a call leaves as it was (Frm), and small lemmas on worlds. Conditions: none. -/
import Derived.Test.YtanelaajdajjnaaPBackupReadsx
import Derived.Recover
import Derived.WalkLawsBesides
import Derived.Lib.Hide
namespace Go.Proofs.Ytanelaajdajjnaa
open Go.RowKit Go.Proofs.YtanelaajdajjnaaW.PrintWords Go.Proofs.YtanelaajdajjnaaW.PrintLast Go.Proofs.YtanelaajdajjnaaW.PrintMore
set_option linter.unusedVariables false
set_option linter.unusedSimpArgs false

/-- From w to W: new blocks came, and only old blocks in S were written. -/
structure Frm (S : Nat → Prop) (w W : World) : Prop where
  os : W.os = w.os
  tape : W.tape = w.tape
  output : W.output = w.output
  size : w.heap.size ≤ W.heap.size
  block : ∀ k, k < w.heap.size → ¬ S k → W.heap[k]? = w.heap[k]?

namespace Frm
variable {S S' : Nat → Prop} {w W W2 : World}
theorem refl (S : Nat → Prop) (w : World) : Frm S w w := ⟨rfl, rfl, rfl, Nat.le_refl _, fun _ _ _ => rfl⟩
theorem mono (h : Frm S w W) (hs : ∀ k, k < w.heap.size → S k → S' k) : Frm S' w W := ⟨h.os, h.tape, h.output, h.size, fun k hk hn => h.block k hk (fun hS => hn (hs k hk hS))⟩
theorem trans (h : Frm S w W) (k : Frm S' W W2) (hs : ∀ k, k < w.heap.size → S' k → S k) : Frm S w W2 :=
  ⟨k.os.trans h.os, k.tape.trans h.tape, k.output.trans h.output, Nat.le_trans h.size k.size, fun i hi hn => (k.block i (Nat.lt_of_lt_of_le hi h.size) (fun hS => hn (hs i hi hS))).trans (h.block i hi hn)⟩
theorem drewN (h : Frm S w W) (n : Nat) : Frm S w (W.drewN n) := ⟨h.os, h.tape, h.output, h.size, h.block⟩
theorem drew (h : Frm S w W) : Frm S w W.drew := ⟨h.os, h.tape, h.output, h.size, h.block⟩
theorem of_below (h : Below w.heap.size w W) (S : Nat → Prop) : Frm S w W := ⟨h.os, h.tape, h.output, h.size, fun k hk _ => h.block k hk⟩
theorem below {B : Nat} (h : Frm S w W) (hB : B ≤ w.heap.size) (hs : ∀ k, k < B → ¬ S k) : Below B w W := ⟨h.os, h.tape, h.output, h.size, fun k hk => h.block k (by omega) (hs k hk)⟩
theorem alloc (h : Frm S w W) (o : Obj) : Frm S w (W.alloc o) := h.trans (of_below (below_alloc (Below.refl _ _) o) (fun _ => False)) (fun _ _ hk => hk.elim)
theorem setCell (h : Frm S w W) (p : Addr) (u : Value) (hp : p.block < w.heap.size → S p.block) : Frm S w (W.setCell p u) :=
  ⟨h.os, h.tape, h.output, by simpa [World.setCell] using h.size, fun k hk hn => (Below.heap_setCell W p u k (fun e => hn (e ▸ hp (e ▸ hk)))).trans (h.block k hk hn)⟩
theorem of_drawn (h : Drawn0 w W) (S : Nat → Prop) : Frm S w W := of_below h.below S
theorem of_kept (h : Kept w W S) (h2 : W.os = w.os) (h3 : W.tape = w.tape) (h4 : W.output = w.output) : Frm S w W := ⟨h2, h3, h4, h.1, h.2⟩
theorem kept (h : Frm S w W) : Kept w W S := ⟨h.size, h.block⟩
theorem grown {row : Option Nat} (h : Frm S w W) (hg : W.grownBy W2 row) (hr : ∀ k, row = some k → k < w.heap.size → S k) : Frm S w W2 :=
  h.trans ⟨hg.os, hg.tape, hg.output, hg.size, fun k hk hn => hg.block k hk hn⟩ (S' := fun k => some k = row) (fun k hk hS => hr k hS.symm hk)
theorem blk (h : Frm S w W) {k : Nat} {o : Obj} (hb : w.heap[k]? = some o) (hn : ¬ S k) : W.heap[k]? = some o := (h.block k (Array.getElem?_eq_some_iff.1 hb).1 hn).trans hb
theorem cell (h : Frm S w W) {a : Addr} {v : Value} (hc : w.cell? a = some v) (hn : ¬ S a.block) : W.cell? a = some v := by
  rw [← hc]; exact World.cell?_of_block (h.block a.block (World.block_lt_of_cell? w a hc) hn)
end Frm

theorem blk_lt_ {w : World} {k : Nat} {o : Obj} (hb : w.heap[k]? = some o) : k < w.heap.size := (Array.getElem?_eq_some_iff.1 hb).1
/-- A block of one cell, and what a store does to it. -/
theorem cell_of_blk {w : World} {B : Nat} {v : Value} {T : TypeId} (h : w.heap[B]? = some (.cells #[v] T (0, 0))) : w.cell? ⟨B, 0, none⟩ = some v := by simp [World.cell?, h]
theorem free_of_blk {w : World} {B : Nat} {c : Array Value} {T : TypeId} (h : w.heap[B]? = some (.cells c T (0, 0))) (o : Nat) : w.frozen? ⟨B, o, none⟩ = false := by simp [World.frozen?, h]
theorem blk_setCell {w : World} {B : Nat} {v u : Value} {T : TypeId} (h : w.heap[B]? = some (.cells #[v] T (0, 0))) : (w.setCell ⟨B, 0, none⟩ u).heap[B]? = some (.cells #[u] T (0, 0)) := by
  have := blk_lt_ h
  simp [World.setCell, Array.getElem?_modify, h]

theorem blk_alloc {w : World} {k : Nat} {o : Obj} (o' : Obj) (h : w.heap[k]? = some o) : (w.alloc o').heap[k]? = some o := by
  rw [Below.heap_alloc w o' k (blk_lt_ h)]; exact h
theorem blk_drewN {w : World} {k n : Nat} {o : Obj} (h : w.heap[k]? = some o) : (w.drewN n).heap[k]? = some o := h
theorem blk_set_other {w : World} {k : Nat} {o : Obj} {p : Addr} {u : Value} (h : w.heap[k]? = some o) (hn : k ≠ p.block) : (w.setCell p u).heap[k]? = some o := by
  rw [Below.heap_setCell w p u k hn]; exact h

theorem bodyPost_panic {P : Program} {fn : Func} {R : Ending → World → Prop} {chain : List PanicEntry} {a : Act} {w : World} (hd : a.defers = []) (h : R (.panicked chain) w) : bodyPost P fn R (.panic chain) a w := ⟨hd, h⟩
theorem C_toNat {α : Type} {d : Kd α} {w : World} {A : Option Addr} {n m : Nat} {xs : List α} (h : d.C w A n xs) (e : n = m) : d.C w A m xs := e ▸ h

end Go.Proofs.Ytanelaajdajjnaa
