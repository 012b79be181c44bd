/- PRINTED BY PROGRAM: what is asked of the encoder of records, as a check that the kernel carries out. No condition. -/
import Derived.Test.YtndjhcmgngnfbaaGreatDoorAmTab
import Derived.Test.YtndjhcmgngnfbaaGreatDoorAmW
import Derived.Test.YtndjhcmgngnfbaaGreatDoorSplA
set_option linter.unusedSimpArgs false
set_option linter.unusedVariables false
set_option linter.all false
namespace Go.Proofs.YtndjhcmgngnfbaaGreatDoor
open Go Go.RowKit Go.Proofs.YtndjhcmgngnfbaaGreatDoor.AM
def encArgs (x : Int × Int × Int × Int) : Array Value := ⟨[.int .i64 x.1, .agg ⟨[.int .i64 x.2.1, .int .i64 x.2.2.1, .int .i64 x.2.2.2]⟩]⟩
def encVal (x : Int × Int × Int × Int) : Value := .agg ⟨(enc x.1 ⟨x.2.1, x.2.2.1, x.2.2.2⟩).map (Value.int .u8)⟩
noncomputable def chkCall (f : FuncId) (args : Array Value) (v : Value) : Bool := match (gmevalN env [] (fun _ _ => none) 200).call f args (startSt []) with | some (u, _) => eqV u v | none => false
theorem closed_none {f : FuncId} {args : Array Value} {v : Value} (h : chkCall f args v = true) (hp : plain v = true) (ha : args.toList.all plain = true) (W : World) :
    Calls Tryz.prog f args W fun e w' => e = .returned v ∧ Below W.heap.size W w' := by
  have hW : TabsMet [] W := fun x hx => by cases hx
  have hm : MemoOk env [] (fun _ _ => none) := memoOk_nil env []
  exact callsIn_wide.1 (mclosed_call (E := env) (mm := fun _ _ => none) (G := []) envOk hm (gs := []) rfl rfl (n := 200) h hp ha hW)
noncomputable def encChk (x : Int × Int × Int × Int) : Bool := chkCall 27 (encArgs x) (encVal x)
def encTab0 : List (Int × Int × Int × Int) := [(0, 4, 0, 0), (1, 4, 1, 1), (2, 4, 1, 2), (2, 4, 2, 3), (3, 4, 2, 4), (3, 4, 3, 0), (4, 4, 3, 1), (5, 4, 3, 2), (6, 4, 3, 3), (4, 4, 4, 4), (6, 4, 4, 0), (7, 4, 4, 1), (8, 4, 4, 2), (2, 1, 2, 1), (6, 1, 3, 1), (1, 2, 0, 1), (4, 2, 3, 1), (7, 2, 4, 1), (3, 5, 0, 0), (9, 5, 0, 0)]
def encTab1 : List (Int × Int × Int × Int) := [(0, 4, 0, 1), (1, 4, 1, 2), (2, 4, 1, 3), (2, 4, 2, 4), (4, 4, 2, 0), (3, 4, 3, 1), (4, 4, 3, 2), (5, 4, 3, 3), (6, 4, 3, 4), (5, 4, 4, 0), (6, 4, 4, 1), (7, 4, 4, 2), (8, 4, 4, 3), (3, 1, 2, 1), (4, 1, 4, 1), (2, 2, 1, 1), (5, 2, 3, 1), (8, 2, 4, 1), (4, 5, 0, 0), (10, 5, 0, 0)]
def encTab2 : List (Int × Int × Int × Int) := [(0, 4, 0, 2), (1, 4, 1, 3), (2, 4, 1, 4), (3, 4, 2, 0), (4, 4, 2, 1), (3, 4, 3, 2), (4, 4, 3, 3), (5, 4, 3, 4), (4, 4, 4, 0), (5, 4, 4, 1), (6, 4, 4, 2), (7, 4, 4, 3), (8, 4, 4, 4), (4, 1, 2, 1), (5, 1, 4, 1), (3, 2, 1, 1), (6, 2, 3, 1), (9, 2, 4, 1), (5, 5, 0, 0)]
def encTab3 : List (Int × Int × Int × Int) := [(0, 4, 0, 3), (1, 4, 1, 4), (2, 4, 2, 0), (3, 4, 2, 1), (4, 4, 2, 2), (3, 4, 3, 3), (4, 4, 3, 4), (6, 4, 3, 0), (4, 4, 4, 1), (5, 4, 4, 2), (6, 4, 4, 3), (7, 4, 4, 4), (0, 1, 0, 1), (3, 1, 3, 1), (6, 1, 4, 1), (3, 2, 2, 1), (7, 2, 3, 1), (0, 5, 0, 0), (6, 5, 0, 0)]
def encTab4 : List (Int × Int × Int × Int) := [(0, 4, 0, 4), (2, 4, 1, 0), (2, 4, 2, 1), (3, 4, 2, 2), (4, 4, 2, 3), (3, 4, 3, 4), (5, 4, 3, 0), (6, 4, 3, 1), (4, 4, 4, 2), (5, 4, 4, 3), (6, 4, 4, 4), (8, 4, 4, 0), (1, 1, 1, 1), (4, 1, 3, 1), (7, 1, 4, 1), (4, 2, 2, 1), (5, 2, 4, 1), (1, 5, 0, 0), (7, 5, 0, 0)]
def encTab5 : List (Int × Int × Int × Int) := [(1, 4, 1, 0), (2, 4, 1, 1), (2, 4, 2, 2), (3, 4, 2, 3), (4, 4, 2, 4), (4, 4, 3, 0), (5, 4, 3, 1), (6, 4, 3, 2), (4, 4, 4, 3), (5, 4, 4, 4), (7, 4, 4, 0), (8, 4, 4, 1), (2, 1, 1, 1), (5, 1, 3, 1), (8, 1, 4, 1), (5, 2, 2, 1), (6, 2, 4, 1), (2, 5, 0, 0), (8, 5, 0, 0)]
end Go.Proofs.YtndjhcmgngnfbaaGreatDoor
