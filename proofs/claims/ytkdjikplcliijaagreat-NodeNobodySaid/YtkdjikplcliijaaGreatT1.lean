/-  Part of the engine and its tables for this claim. -/
import Derived.Test.YtkdjikplcliijaaGreatFTA
namespace Go.Vd.Tz
open Go.Proofs
noncomputable def mdN : Md := ⟨TT, fun _ _ _ _ => none, FTall.find, false, false⟩
theorem hmdN : MdOk Tryz.prog mdN := ⟨hTT, hmix, (fun _ _ _ _ _ _ h => by cases h), fun _ _ h => hFTall.find h⟩
set_option maxRecDepth 100000
theorem good_nil (w : World) : Calls Tryz.prog 28 #[.pointer none] w (fun e w' => e = .returned (.bool false) ∧ Ext w [] w') := by
  obtain ⟨_, fn, h1, h2, h3, h4⟩ : FnOk Tryz.prog 28 (mkFI Tryz.f28) := ⟨Tryz.call28, Tryz.f28, Tryz.func28, by kernel_rfl, by kernel_rfl, by kernel_rfl⟩
  refine enter hmdN (fn := fn) h1 h2 _ h3 200 [.nilp] (by decide +kernel) [] 0 [] [] (by intro k b c h; cases h) (by simp [blocks]) (by simp [blocks]) (by intro V h; cases h) (fun fr => ?_)
  rw [h4]
  exact ⟨trivial, fun a w' ok => ⟨rfl, ok.ok.ext⟩⟩
end Go.Vd.Tz
