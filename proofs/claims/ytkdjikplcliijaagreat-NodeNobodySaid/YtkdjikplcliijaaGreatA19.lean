/-  Package viaductlaw19: 'alive' answers true. -/
import Derived.Test.YtkdjikplcliijaaGreatFTA
import Derived.Laws.Externs
set_option maxRecDepth 100000
namespace Go.Vd.Tz
open Go.Proofs
/-- math/bits.Add64 -/
noncomputable def sumC (f : FuncId) (args : List SV) (_hp : Hp) (_vs : List MV) : Option (SV × List Sd) :=
  match Nat.beq f 243 with
  | true => match args with
    | [.it .u64 (.ofNat x), .it .u64 (.ofNat y), .it .u64 (.ofNat c)] => match Nat.ble c 1 with
      | true => some (.tup [.it .u64 (.ofNat ((x + y + c) % 18446744073709551616)), .it .u64 (.ofNat ((x + y + c) / 18446744073709551616))], [])
      | false => none
    | _ => none
  | false => none
theorem hsumC {f : FuncId} {args : List SV} {hp : Hp} {vs : List MV} {v : SV} {sd : List Sd} (h : sumC f args hp vs = some (v, sd)) (w : World) : SumRes Tryz.prog f args v w := by
  unfold sumC at h
  split at h <;> try (cases h; done)
  rename_i hf
  have hf := Nat.eq_of_beq_eq_true hf; subst hf
  split at h <;> try (cases h; done)
  rename_i x y c
  split at h <;> try (cases h; done)
  rename_i hc
  have hc := Nat.le_of_ble_eq_true hc
  injection h with h; injection h with h1 h2; subst h1
  refine .inl ?_
  show (callFunc 243 #[.int .u64 (x : Int), .int .u64 (y : Int), .int .u64 (c : Int)]).run Tryz.prog w = _
  rw [run_callFunc_extern Tryz.func243 (by kernel_rfl) (by kernel_rfl) (by kernel_rfl) (e := add64Entry) (by kernel_rfl), run_add64 (x : Int) (y : Int) (c : Int) (by omega) (by omega) (by omega) (by omega)]
  simp [SV.den, SV.dens]
noncomputable def mdC : Md := ⟨TT, sumC, FTall.find, true, true⟩
theorem hmdC : MdOk Tryz.prog mdC := ⟨hTT, hmix, fun _ _ hp vs v sd h _ _ _ _ _ w _ => hsumC (hp := hp) (vs := vs) (v := v) (sd := sd) h w, fun _ _ h => hFTall.find h⟩
theorem alive_run (fr : Nat → Nat × Nat) : ansL (run mdC fr 80000 (mkFI Tryz.f8).N (mkFI Tryz.f8).rs [] [] [] [] 0 [.c (mkFI Tryz.f8).c] []) = ansR (run mdC fr 80000 (mkFI Tryz.f8).N (mkFI Tryz.f8).rs [] [] [] [] 0 [.c (mkFI Tryz.f8).c] []) := by kernel_rfl
theorem alive (w : World) : Calls Tryz.prog 8 #[] w (fun e w' => e = .returned (.bool true) ∧ Ext w [] w') := by
  obtain ⟨_, fn, h1, h2, h3, h4⟩ : FnOk Tryz.prog 8 (mkFI Tryz.f8) := ⟨Tryz.call8, Tryz.f8, Tryz.func8, by kernel_rfl, by kernel_rfl, by kernel_rfl⟩
  refine enter hmdC (fn := fn) h1 h2 _ h3 80000 [] (by simp) [] 0 [] [] (by intro k b c h; cases h) (by simp [blocks]) (by simp [blocks]) (by intro V h; cases h) (fun fr => ?_)
  rw [h4]
  exact sem_true (alive_run fr) (fun w' h => ⟨rfl, h⟩) _
end Go.Vd.Tz
