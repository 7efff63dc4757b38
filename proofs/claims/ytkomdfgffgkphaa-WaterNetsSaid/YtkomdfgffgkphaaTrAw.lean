/- The examples of chapter 2 are as they should be: awake gives true. Conditions: none. -/
import Derived.Test.YtkomdfgffgkphaaTrRun
import Derived.Test.YtkomdfgffgkphaaProg
namespace Go.Tr
open Go Go.Proofs

abbrev i64 (n : Int) : AV := .val (.int .i64 n)
abbrev vb (b : Bool) : AV := .val (.bool b)
abbrev sb (s : List UInt8) : AV := .val (.string ⟨⟨s⟩⟩)
def tab (es : Nat) (l : List (List AV)) : AV := .rslice es l.length fun i => match nth? l i with | some r => r | none => []

def netA : AV := .agg [tab 4 [[sb [117, 112], vb true, i64 100, i64 0], [sb [106], vb false, i64 0, i64 3], [sb [100, 111, 119, 110], vb true, i64 0, i64 0]], tab 6 [[sb [97], i64 0, i64 1, i64 100, vb false, vb true], [sb [98], i64 1, i64 2, i64 200, vb true, vb true]]]
def dryA : AV := .agg [tab 4 [[sb [115], vb true, i64 0, i64 0], [sb [116], vb false, i64 0, i64 0], [sb [117], vb false, i64 0, i64 0]], tab 6 [[sb [112], i64 0, i64 1, i64 0, vb true, vb false], [sb [113], i64 1, i64 2, i64 0, vb false, vb true]]]

theorem mixed2 : Try.prog.follows .mixedOrders = true := by kernel_rfl
theorem run_net : Run.ok Try.prog ⟨69, [], netA⟩ := run_ok mixed2 (l := []) (by simp) 1000 60 (by kernel_rfl)
theorem run_dry : Run.ok Try.prog ⟨70, [], dryA⟩ := run_ok mixed2 (l := []) (by simp) 1000 60 (by kernel_rfl)
end Go.Tr
