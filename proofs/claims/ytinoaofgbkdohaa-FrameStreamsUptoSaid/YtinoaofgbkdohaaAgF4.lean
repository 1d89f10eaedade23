/- Functions with statements that are walked by other laws: the one-step walk. -/
import Derived.Test.YtinoaofgbkdohaaAgXX
import Derived.Test.YtinoaofgbkdohaaAgFF
set_option linter.unusedVariables false
set_option linter.unusedSimpArgs false
namespace Go.Proofs.Ytinoaofgbkdohaa.Ag
theorem FCvcX {P : Program} {E : Env} (hE : EnvOk P E) {f : FuncId} {fn : Func} {ch : List (Nat × List Nat)} {af : AFn} {xs : List IV} {Q : IV → Prop} (hf : P.funcs[f]? = some fn) (ht : trFnX triv P ch fn = some af) (hn : xs.length ≤ fn.ntmps)
    (h : vc E af.code (endsFC af.res Q) { ρ := args0 (xs.map .iv) 0, σ := [] }) : FC P f xs Q :=
  FC.ofGC (GC.ofGCX (GCX.of hf ht (by simpa using hn) (wpc_mono af.code _ _ _ (fun e s h => endsFC_is h) (vc_ok hE _ h))))
theorem GCXvc {p : Prm} {P : Program} {E : Env} (hE : EnvOk P E) {f : FuncId} {fn : Func} {ch : List (Nat × List Nat)} {af : AFn} {vs : List TV} {σ : Slots} {Q : TV → Slots → Prop} (hf : P.funcs[f]? = some fn) (ht : trFnX p P ch fn = some af) (hn : vs.length ≤ fn.ntmps)
    (h : vc E af.code (endsGC af.res Q) { ρ := args0 vs 0, σ := σ }) : GCX p P f vs σ Q :=
  GCX.of hf ht hn (wpc_mono af.code _ _ _ (fun e s h => endsGC_is h) (vc_ok hE _ h))
end Go.Proofs.Ytinoaofgbkdohaa.Ag
