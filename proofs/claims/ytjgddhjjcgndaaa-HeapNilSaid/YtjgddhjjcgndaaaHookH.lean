import Derived.Test.YtjgddhjjcgndaaaRows
import Derived.Test.YtjgddhjjcgndaaaAIRow
/- What is known of the functions of layer 13's program ahead of their being carried out. -/
namespace Go.Proofs.Ytjgddhjjcgndaaa
open Go.AI
set_option maxRecDepth 100000

def Try.ext : FuncId → Option (Array Value → Sem Value)
  | 40 => some Extern.MathFloatBits.float64bits
  | 33 => some Extern.MathFloatBits.float64frombits
  | 41 => some (Extern.MathFloor.toIntegral "math.archTrunc" .zero)
  | _ => .none
def Try.hook : Hook := ⟨fun _ => .own, fun g => Nat.beq g 12 || Nat.ble 18 g && Nat.ble g 20 || Nat.ble 30 g, fun _ _ _ => .none, Try.ext⟩
theorem Try.mixed : Try.prog.follows .mixedOrders = true := by kernel_rfl

theorem Try.hook_ok : HookOK Try.prog Try.hook := by
  refine ⟨(fun _ _ _ _ h => by cases h), fun g e h => ?_⟩
  have h : Try.ext g = some e := h
  unfold Try.ext at h
  split at h
  · injection h with h; subst h
    exact ⟨Try.f40, Try.func40, by kernel_rfl, by kernel_rfl, by kernel_rfl, by kernel_rfl⟩
  · injection h with h; subst h
    exact ⟨Try.f33, Try.func33, by kernel_rfl, by kernel_rfl, by kernel_rfl, by kernel_rfl⟩
  · injection h with h; subst h
    exact ⟨Try.f41, Try.func41, by kernel_rfl, by kernel_rfl, by kernel_rfl, by kernel_rfl⟩
  · cases h
end Go.Proofs.Ytjgddhjjcgndaaa
