/-  Tables of functions. -/
import Derived.Test.YtkdjikplcliijaaGreatV8
namespace Go.Vd
inductive FT where
  | nil
  | node (l : FT) (k : Nat) (v : FI) (r : FT)
noncomputable def FT.find (T : FT) (t : Nat) : Option FI :=
  FT.rec (motive := fun _ => Option FI) none (fun _ k v _ l r => Bool.rec (motive := fun _ => Option FI) (Bool.rec (motive := fun _ => Option FI) r l (Nat.blt t k)) (some v) (Nat.beq t k)) T
theorem FT.find_node {l r : FT} {k : Nat} {v : FI} {t : Nat} : (FT.node l k v r).find t = match Nat.beq t k with
    | true => some v
    | false => match Nat.blt t k with
      | true => l.find t
      | false => r.find t := by
  show Bool.rec (motive := fun _ => Option FI) (Bool.rec (motive := fun _ => Option FI) (r.find t) (l.find t) (Nat.blt t k)) (some v) (Nat.beq t k) = _
  cases Nat.beq t k <;> cases Nat.blt t k <;> rfl
def mkFI (fn : Func) : FI := ⟨match fn.body with | some c => c | none => .skip, fn.ntmps, fn.results.toList⟩
def FnOk (P : Program) (f : FuncId) (fi : FI) : Prop := CallOk P f ∧ ∃ fn, P.funcs[f]? = some fn ∧ fn.body = some fi.c ∧ fn.ntmps = fi.N ∧ fn.results.toList = fi.rs
inductive FT.All (p : Nat → FI → Prop) : FT → Prop
  | nil : FT.All p .nil
  | node {l r : FT} {k : Nat} {v : FI} : FT.All p l → p k v → FT.All p r → FT.All p (.node l k v r)
theorem FT.All.find {p : Nat → FI → Prop} {T : FT} (h : T.All p) {t : Nat} {fi : FI} (hf : T.find t = some fi) : p t fi := by
  induction h with
  | nil => cases hf
  | node _ hv _ ihl ihr =>
    simp only [FT.find_node] at hf
    split at hf
    · rename_i h1
      injection hf with hf; subst hf
      rw [Nat.eq_of_beq_eq_true h1]; exact hv
    · split at hf
      · exact ihl hf
      · exact ihr hf
end Go.Vd
