/- How the arguments and results of functions are told by abstract values, and read off them. -/
import Derived.Test.YthdmhibmokhpgaaGreatAELoop
set_option linter.unusedVariables false
set_option linter.unusedSimpArgs false
namespace Go.AE

structure ResD where
  v : Int
  e : Int

structure Int3 where
  a : Int
  b : Int
  c : Int

def dI (k : IntKind) : V → Option Int
  | .i l n => if isKind k l then some n else none
  | _ => none
def dB : V → Option Bool
  | .b x => some x
  | _ => none
def dS : V → Option (List UInt8)
  | .s x => some x
  | _ => none

def eMemD (x : MemD) : V := .agg [.sl .int x.W false, .sl .int x.G false, .b x.bad]
def dMemD : V → Option MemD
  | .agg [w, g, .b b] => match asSl .int w, asSl .int g with
    | some w, some g => some ⟨w, g, b⟩
    | _, _ => none
  | _ => none

def eSysD (x : SysD) : V := .agg [.sl .int x.M.W false, .sl .int x.M.G false, .b x.M.bad, .sl .core x.C false, .sl .ev x.L false]
def dSysD : V → Option SysD
  | .agg [w, g, .b b, c, l] => match asSl .int w, asSl .int g, asSl .core c, asSl .ev l with
    | some w, some g, some c, some l => some ⟨⟨w, g, b⟩, c, l⟩
    | _, _, _, _ => none
  | _ => none

def eKernD (x : KernD) : V := .agg [.sl .int x.S.M.W false, .sl .int x.S.M.G false, .b x.S.M.bad, .sl .core x.S.C false, .sl .ev x.S.L false, .sl .thread x.T false, .sl .int x.On false, .sl .int x.Turn false]
def dKernD : V → Option KernD
  | .agg [w, g, .b b, c, l, t, o, n] => match asSl .int w, asSl .int g, asSl .core c, asSl .ev l, asSl .thread t, asSl .int o, asSl .int n with
    | some w, some g, some c, some l, some t, some o, some n => some ⟨⟨⟨w, g, b⟩, c, l⟩, t, o, n⟩
    | _, _, _, _, _, _, _ => none
  | _ => none

def eEl (t : STy) (x : El t) : V := .agg (cellsOf t x)
def dEl (t : STy) : V → Option (El t)
  | .agg cs => ofCells t cs
  | _ => none

def eFrameD (x : FrameD) : V := eEl .frame x
def dFrameD : V → Option FrameD := dEl .frame
def eCoreD (x : CoreD) : V := eEl .core x
def dCoreD : V → Option CoreD := dEl .core
def eEvD (x : EvD) : V := eEl .ev x
def dEvD : V → Option EvD := dEl .ev
def eCallD (x : CallD) : V := eEl .call x
def dCallD : V → Option CallD := dEl .call
def ePastD (x : PastD) : V := eEl .past x
def dPastD : V → Option PastD := dEl .past
def eThreadD (x : ThreadD) : V := eEl .thread x
def dThreadD : V → Option ThreadD := dEl .thread
def eStepD (x : StepD) : V := eEl .step x
def dStepD : V → Option StepD := dEl .step
def eMoveD (x : MoveD) : V := eEl .move x
def dMoveD : V → Option MoveD := dEl .move

def eResD (x : ResD) : V := .agg [I x.v, I x.e]
def dResD : V → Option ResD
  | .agg [.i .i64 a, .i .i64 b] => some ⟨a, b⟩
  | _ => none

def eInt3 (x : Int3) : V := .agg [I x.a, I x.b, I x.c]
def dInt3 : V → Option Int3
  | .agg [.i .i64 a, .i .i64 b, .i .i64 c] => some ⟨a, b, c⟩
  | _ => none

end Go.AE
