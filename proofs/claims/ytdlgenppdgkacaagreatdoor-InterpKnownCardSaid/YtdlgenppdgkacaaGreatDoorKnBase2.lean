/- internal/stringslite.IndexByte over values, ahead of the other library functions. -/
import Derived.Test.YtdlgenppdgkacaaGreatDoorKnShelf2
import Derived.Test.YtdlgenppdgkacaaGreatDoorKnBase
set_option linter.unusedVariables false
namespace Go.Proofs.YtdlgenppdgkacaaGreatDoor.Ag
theorem indexByte_fc (s : ByteArray) (c : Int) : FC Tryz.prog 228 [.str s, .int .u8 c] (· = .int .i64 (Lib.indexByte s.data.toList c.toNat.toUInt8)) := by
  refine .plain #[.string s, .int .u8 c] (fun I w vs hsz hr => ?_) _ (fun _ _ => .int _ _) fun w => Tryz.stringslite_IndexByte s c w
  obtain ⟨l⟩ := vs
  match l, hsz with
  | [u, v], _ =>
    have h0 := hr 0 _ u rfl (by simp)
    have h1 := hr 1 _ v rfl (by simp)
    cases h0; cases h1; rfl
def libBase2 : Base := fun f ys => match ys with
  | [.str s, .int .u8 c] => if f = 228 then some (.int .i64 (Lib.indexByte s.data.toList c.toNat.toUInt8)) else libBase f ys
  | _ => libBase f ys
theorem libBase2_ok : BaseOk Tryz.prog libBase2 := by
  intro f ys x h
  unfold libBase2 at h
  split at h
  · rename_i s c
    split at h
    · rename_i hf; subst hf
      injection h with h; subst h
      exact ⟨by kernel_rfl, indexByte_fc s c⟩
    · exact libBase_ok _ _ _ h
  · exact libBase_ok _ _ _ h
end Go.Proofs.YtdlgenppdgkacaaGreatDoor.Ag
