import Derived.Test.YtjgddhjjcgndaaaHStep
import Derived.Test.YtjgddhjjcgndaaaAILoop
/- whole: its code, cut at its loops. -/
set_option linter.unusedVariables false
namespace Go.Proofs.Ytjgddhjjcgndaaa
open Go.AI
set_option maxRecDepth 100000
namespace flt
noncomputable def bodyOf (g : FuncId) : Code := match Try.prog.funcs[g]? with
  | some fn => match fn.body with
    | some c => c
    | none => .skip
  | none => .skip
noncomputable def loopC : List It → Code
  | .code (.loop c) :: _ => c
  | _ => .skip
noncomputable def tailT : List It → List It
  | _ :: l => l
  | [] => []
noncomputable def hookZ (v : Int) : Hook := hookS v true false false 0 0 0 0 (fun _ => zN) (fun _ => (zC, zC)) 0 0
noncomputable def runZ (bs : List Bool) (todo : List It) (env : List AV) : List It := outTodo (run Try.prog (evalF Try.prog (hookZ 0) 8) true 4000 todo ⟨env, hp 0 (sObj false false 0 0 0 0 (nodeF fun _ => zN) (pairF fun _ => (zC, zC)) 0 0), 2⟩ bs [])
noncomputable def wEnv : List AV := startEnv 106 [.ptr 0 0, .ptr 1 0]
noncomputable def wT1 : List It := runZ [] [.code (bodyOf 8)] wEnv
noncomputable def wC1 : Code := loopC wT1
noncomputable def wK1 : List It := tailT wT1
noncomputable def wE (i : Int) : List AV := fillE [0, 1, 4, 5] [.ptr 0 0, .ptr 1 0, vb false, vi i] 106 0
noncomputable def wE2 (i : Int) : List AV := fillE [0, 1, 4, 10] [.ptr 0 0, .ptr 1 0, vb false, vi i] 106 0
noncomputable def wT2 : List It := runZ [false] (.code wC1 :: .back :: wK1) (wE 0)
noncomputable def wC2 : Code := loopC wT2
noncomputable def wK2 : List It := tailT wT2
end flt
end Go.Proofs.Ytjgddhjjcgndaaa
