/- Contract of backup.Read: its deferred closure, its body. Conditions: none. -/
import Derived.Test.YtanelaajdajjnaaB6
import Derived.Defers
import Derived.Recover
import Derived.Laws.Pointers
namespace Go.Proofs.Ytanelaajdajjnaa
open Go.RowKit Go.Proofs.YtanelaajdajjnaaW.PrintWords Go.Proofs.YtanelaajdajjnaaW.PrintLast Go.Proofs.YtanelaajdajjnaaW.PrintMore
set_option linter.unusedVariables false
set_option linter.unusedSimpArgs false
open PBackupReads
theorem catch_idle (p q : Addr) (w : World) :
    CallsD Try.prog 20 #[.pointer (some p), .pointer (some q)] .returning w fun e u' w' => e = .returned (.tuple #[]) ∧ u' = .returning ∧ w' = w := by
  refine callsD_of_wpS Try.func20 rfl fun c₀ cs hu => ?_
  apply wpS_seq
  apply wpS_region
  simp [wpOpsS, go_sem, recoverD, hu, Try.ntmps20, Exit.thenS]
  refine wpS_of_wp ?_
  simp [Array.replicate_succ]
  go_wp2
  cases c₀
  simp_all [bodyPostS, results, Try.results20]
theorem run_is_corrupt (w : World) : (Instr.typeAssert (.iface 49 (.agg #[])) 20 49 true).run Try.prog w = .ok (.tuple #[.agg #[], .bool true]) w := by kernel_rfl
theorem catch_panicking (p q : Nat) (x y : Value) (older : List PanicEntry) (w : World) (hp : w.heap[p]? = some (.cells #[x] 22 (0, 0))) (hq : w.heap[q]? = some (.cells #[y] 25 (0, 0))) (hpq : p ≠ q) :
    CallsD Try.prog 20 #[.pointer (some ⟨p, 0, none⟩), .pointer (some ⟨q, 0, none⟩)] (.panicking ({ v := .iface 49 (.agg #[]), recovered := false } :: older)) w fun e u' w' =>
      e = .returned (.tuple #[]) ∧ u' = .panicking ({ v := .iface 49 (.agg #[]), recovered := true } :: older) ∧ w' = ((w.alloc (.cells #[] 49)).setCell ⟨p, 0, none⟩ (.slice none 0 0)).setCell ⟨q, 0, none⟩ (.int .i64 11) := by
  have hta := run_is_corrupt
  have hp' := blk_alloc (.cells #[] 49) hp
  have hq' := blk_set_other (u := .slice none 0 0) (p := ⟨p, 0, none⟩) (blk_alloc (.cells #[] 49) hq) (Ne.symm hpq)
  have c1 := cell_of_blk hp'
  have c2 := free_of_blk hp' 0
  have c3 := cell_of_blk hq'
  have c4 := free_of_blk hq' 0
  clear hp hq hp' hq'
  refine callsD_of_wpS Try.func20 rfl fun c₀ cs hu => ?_
  apply wpS_seq
  apply wpS_region
  simp [wpOpsS, go_sem, recoverD, hu, Try.ntmps20, Exit.thenS]
  refine wpS_of_wp ?_
  simp [Array.replicate_succ]
  go_wp2
  cases c₀
  simp_all [bodyPostS, results, Try.results20]
end Go.Proofs.Ytanelaajdajjnaa
