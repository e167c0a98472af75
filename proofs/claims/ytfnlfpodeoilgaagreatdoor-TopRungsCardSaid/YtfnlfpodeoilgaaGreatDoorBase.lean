/- What the run starts from: the package-level variables, and short names for values. No condition. -/
import Derived.Test.YtfnlfpodeoilgaaGreatDoorTab
import Derived.Test.YtfnlfpodeoilgaaGreatDoorAmZb
set_option linter.all false
noncomputable section
namespace Go.Proofs.YtfnlfpodeoilgaaGreatDoor
open Go.AM

def i64 (n : Nat) : AV := .int .i64 (.ofNat n)
def u8 (n : Nat) : AV := .int .u8 (.ofNat n)
def lev (nm : List UInt8) (a b c d e f g h sc : Nat) : List AV := [.str ⟨⟨nm⟩⟩, i64 a, i64 b, i64 c, i64 d, i64 e, i64 f, i64 g, i64 h, i64 sc]
def gAgainst : List AV := [u8 0, u8 64, u8 120, u8 84, u8 124, u8 116, u8 126]
def gLevels : List AV := lev [] 0 0 0 0 0 0 0 0 0 ++ (lev [80, 76, 45, 49] 0 0 0 0 0 0 5 2 0 ++ (lev [80, 76, 45, 50] 3 1 0 0 3 1 5 2 1 ++
  (lev [80, 76, 45, 67, 83] 3 1 0 0 3 2 5 2 1 ++ (lev [80, 76, 45, 50, 46, 57, 57] 3 3 3 3 3 3 5 3 1 ++ lev [80, 76, 45, 51] 3 3 3 3 3 3 5 3 3))))
def gg : Globs := fun g => match g.beq 1 with
  | true => some gAgainst
  | false => match g.beq 0 with
    | true => some gLevels
    | false => none

/-! Short names, for the printed tables. -/
def I (n : Nat) : AV := .int .i64 (.ofNat n)
def B (l : List UInt8) : AV := .str ⟨⟨l⟩⟩
def Q (id m off : Nat) : AV := .ptr ⟨id, m, off⟩
def K (id m off len c : Nat) : AV := .slice ⟨id, m, off⟩ len (.known c)
def U (id m off len e lb : Nat) : AV := .slice ⟨id, m, off⟩ len (.unk e lb)
end Go.Proofs.YtfnlfpodeoilgaaGreatDoor
