/- The contract of a function from its body. Conditions: the program's rules take any order. -/
import Derived.Test.YtkomdfgffgkphaaTrDB
namespace Go.Tr
open Go Go.RowKit

theorem sound {P : Program} {d : Nat} (hm : P.follows .mixedOrders = true) {f : FuncId} {fn : Func} {args : List AV} {r : AV} {fr : Bool} (hf : P.funcs[f]? = some fn) (hn : (fn.name == "runtime.NumGoroutine") = false) (hlen : Nat.ble args.length fn.ntmps = true) (hb : Body (envOf P d) (TP P) fn args r fr) : Sound1 P f args r fr :=
  sound_of_body (drawn_ok (TOK_TP P) hm) hf hn (Nat.le_of_ble_eq_true hlen) hb
end Go.Tr
