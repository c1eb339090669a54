/- Plain functions on instructions and programs: which instructions may be, and their bytes. No program in sight. -/
import Derived.Lib.Hide
namespace Go.Proofs.YtggdbceommmllaaDoor
namespace P2

abbrev Ins := Int × Int × Int × Int × Int

def kindsN : Nat → List Int
  | 0 => [1, 0, 0, 5] | 1 => [1, 1, 0, 0] | 2 => [1, 1, 1, 0] | 3 => [1, 1, 1, 0] | 4 => [1, 1, 1, 0] | 5 => [1, 1, 1, 0]
  | 6 => [0, 0, 0, 2] | 7 => [1, 0, 0, 2] | 8 => [1, 0, 0, 3] | 9 => [1, 1, 0, 0] | 10 => [1, 1, 1, 0] | 11 => [0, 0, 0, 4]
  | 12 => [1, 0, 0, 0] | 13 => [0, 0, 0, 0] | 14 => [0, 0, 0, 0] | 15 => [1, 0, 0, 0] | 16 => [1, 0, 0, 0] | _ => [0, 0, 0, 0]
def kind (op : Int) (k : Nat) : Int := (kindsN op.toNat).getD k 0
def lo (k : Int) : Int := if k = 5 then -2147483648 else 0
def hi (k : Int) : Int := if k = 1 then 7 else if k = 2 then 127 else if k = 3 then 31 else if k = 4 then 65535 else if k = 5 then 2147483647 else 0
def inR (k x : Int) : Bool := decide (lo k ≤ x ∧ x ≤ hi k)
def opOk (op : Int) : Bool := decide (0 ≤ op ∧ op ≤ 16)
def fits (i : Ins) : Bool := inR (kind i.1 0) i.2.1 && inR (kind i.1 1) i.2.2.1 && inR (kind i.1 2) i.2.2.2.1 && inR (kind i.1 3) i.2.2.2.2
def chk (i : Ins) : Int := if opOk i.1 = false then 13 else if fits i = true then 0 else 10

end P2
end Go.Proofs.YtggdbceommmllaaDoor
