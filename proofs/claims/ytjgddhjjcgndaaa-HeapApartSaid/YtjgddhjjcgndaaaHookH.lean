import Derived.Test.YtjgddhjjcgndaaaRows
import Derived.Test.YtjgddhjjcgndaaaAIRow
/- What is known of the functions of layer 13's program ahead of their being carried out. -/
namespace Go.Proofs.Ytjgddhjjcgndaaa
open Go.AI
set_option maxRecDepth 100000

/-- A float that is no NaN, cut to a whole one. -/
def truncW (x : Nat) : Nat := FloatKind.f64.encode ((FloatKind.f64.decode x).integral .zero)
def Try.ext : FuncId → List Value → Option (Value × List Ob)
  | 40, [.float .f64 x] => some (.int .u64 x, [])
  | 33, [.int .u64 n] => some (.float .f64 n.toNat, [])
  | 41, [.float .f64 x] => some (.float .f64 (truncW x), [ob ((FloatKind.f64.decode x).isNaN = false)])
  | _, _ => .none
def Try.hook : Hook := ⟨fun _ => .own, fun g => Nat.beq g 12 || Nat.ble 18 g && Nat.ble g 20 || Nat.ble 30 g, fun _ _ _ => .none, Try.ext⟩
theorem Try.mixed : Try.prog.follows .mixedOrders = true := by kernel_rfl

theorem trunc_run {P : Program} {x : Nat} (hn : (FloatKind.f64.decode x).isNaN = false) (w : World) : (Extern.MathFloor.toIntegral "math.archTrunc" .zero #[.float .f64 x]).run P w = .ok (.float .f64 (truncW x)) w := by
  have e : ∀ d, FloatKind.f64.decode x = d → Extern.MathFloor.toIntegral "math.archTrunc" .zero #[.float .f64 x] = (match d with
    | .nan s t => if FloatKind.f64.format.quiet t = t then pure (.float .f64 x) else do
      let kept ← choose (.extern "math.Floor,Ceil,Trunc,RoundToEven.signallingNaN kept" 2)
      pure (.float .f64 (if kept == 1 then x else FloatKind.f64.encode (.nan s (FloatKind.f64.format.quiet t))))
    | d => pure (.float .f64 (FloatKind.f64.encode (d.integral .zero)))) := fun d hd => by subst hd; rfl
  rw [e _ rfl]
  unfold truncW
  cases hd : FloatKind.f64.decode x with
  | nan s t => rw [hd] at hn; cases hn
  | number s m i => rfl
  | infinity s => rfl

theorem Try.hook_ok : HookOK Try.prog Try.hook := by
  refine ⟨(fun _ _ _ _ h => by cases h), fun g vs v ps h hps => ?_⟩
  have h : Try.ext g vs = some (v, ps) := h
  unfold Try.ext at h
  split at h
  · injection h with h; injection h with h1 h2; subst h1 h2
    exact ⟨Try.f40, Extern.MathFloatBits.float64bits, Try.func40, by kernel_rfl, by kernel_rfl, by kernel_rfl, by kernel_rfl, rfl, fun _ => rfl⟩
  · injection h with h; injection h with h1 h2; subst h1 h2
    exact ⟨Try.f33, Extern.MathFloatBits.float64frombits, Try.func33, by kernel_rfl, by kernel_rfl, by kernel_rfl, by kernel_rfl, rfl, fun _ => rfl⟩
  · injection h with h; injection h with h1 h2; subst h1 h2
    exact ⟨Try.f41, Extern.MathFloor.toIntegral "math.archTrunc" .zero, Try.func41, by kernel_rfl, by kernel_rfl, by kernel_rfl, by kernel_rfl, rfl, fun w => trunc_run hps.1 w⟩
  · cases h
end Go.Proofs.Ytjgddhjjcgndaaa
