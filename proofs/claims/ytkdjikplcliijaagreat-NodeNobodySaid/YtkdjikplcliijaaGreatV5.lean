/-  The evaluator is sound, part 5: code. -/
import Derived.Test.YtkdjikplcliijaaGreatV5c
namespace Go.Vd
section
variable {P : Program} {T : BT} {base : World} {F : List Nat} {env : Env} {hp : Hp} {vs : List MV} {a : Act} {w : World}

/-- at the end of a loop's round -/
def lpWp (P : Program) (c : Code) (Q : Exit → Act → World → Prop) (a : Act) (w : World) : Prop :=
  ∀ (b : Go.Frame) (k : List Item) (cs : List Go.Frame), ∃ e a' w', Q e a' w' ∧ Arrives P (lone (b.at a (.inLoop c :: k)) cs w) b k cs e a' w'
theorem lp_again {P : Program} {c : Code} {Q : Exit → Act → World → Prop} {a : Act} {w : World} (h : c.wp P (Exit.then (lpWp P c Q) Q) a w) (b : Go.Frame) (k : List Item) (cs : List Go.Frame) :
    ∃ e a' w', Q e a' w' ∧ Arrives P (lone (b.at a (.code c :: .inLoop c :: k)) cs w) b k cs e a' w' := by
  obtain ⟨e, a₁, w₁, hq, harr⟩ := h b (.inLoop c :: k) cs
  cases e with
  | normal =>
    obtain ⟨e₂, a₂, w₂, hq₂, harr₂⟩ := hq b k cs
    exact ⟨e₂, a₂, w₂, hq₂, .of_steps harr harr₂⟩
  | exit id => exact ⟨_, a₁, w₁, hq, .pass (x := .inLoop c) rfl (fun _ _ => .inl (by simp)) harr⟩
  | goto l => exact ⟨_, a₁, w₁, hq, .pass (x := .inLoop c) rfl (fun _ _ => .inl (by simp)) harr⟩
  | ret => exact ⟨_, a₁, w₁, hq, .pass (x := .inLoop c) rfl (fun _ _ => .inl (by simp)) harr⟩
  | panic ch => exact ⟨_, a₁, w₁, hq, .pass (x := .inLoop c) rfl (fun _ _ => .inl (by simp)) harr⟩
  | outgrown => exact ⟨_, a₁, w₁, hq, .pass (x := .inLoop c) rfl (fun _ _ => .inl (by simp)) harr⟩
theorem lp_round {P : Program} {c : Code} {Q : Exit → Act → World → Prop} {a : Act} {w : World} (h : c.wp P (Exit.then (lpWp P c Q) Q) a w) : lpWp P c Q a w := fun b k cs =>
  let ⟨e, a', w', hq, harr⟩ := lp_again h b k cs
  ⟨e, a', w', hq, .of_steps (.one step_inLoop) harr⟩
theorem lp_start {P : Program} {c : Code} {Q : Exit → Act → World → Prop} {a : Act} {w : World} (h : c.wp P (Exit.then (lpWp P c Q) Q) a w) : (Code.loop c).wp P Q a w := fun b k cs =>
  let ⟨e, a', w', hq, harr⟩ := lp_again h b k cs
  ⟨e, a', w', hq, .of_steps (.one step_loop) harr⟩

/-- what is left to do, as a postcondition -/
def KX (P : Program) (Q : Exit → Act → World → Prop) : List K → Exit → Act → World → Prop
  | [] => Q
  | .c code :: ks => Exit.then (code.wp P (KX P Q ks)) (KX P Q ks)
  | .ops all l :: ks => Exit.then (wpList P all (KX P Q ks) l) (KX P Q ks)
  | .blk id :: ks => Exit.inBlock id (KX P Q ks)
  | .inv I :: ks => Exit.then I (KX P Q ks)
  | .lp b :: ks => Exit.then (lpWp P b (KX P Q ks)) (KX P Q ks)
  | .gap ops f plan dn :: ks => Exit.then (GapM P ops (KX P Q ks) f plan dn) (KX P Q ks)
  | .gapS ops f B ob plan dn :: ks => Exit.then (GapF P ops (KX P Q ks) f B ob plan dn) (KX P Q ks)
  | .chk ops i dn :: ks => Exit.then (fun a w => ChkP P ops i dn a w ∧ KX P Q ks .normal a w) (KX P Q ks)

structure Ok (N : Nat) (base : World) (F : List Nat) (s : St) (a : Act) (w : World) : Prop where
  ok : OK base F s.env s.hp s.vs a w
  size : a.tmps.size = N

def opGoal (P : Program) (Q : Exit → Act → World → Prop) (o : Oper) : List K → Act → World → Prop
  | .ops all l :: ks, a, w => wpList P all (KX P Q ks) (o :: l) a w
  | _, _, _ => False

/-- a call of a function that has a body enters it -/
def CallOk (P : Program) (f : FuncId) : Prop := ∀ args w, (callFunc f args).run P w = .ok (.enter f args) w

def sem (P : Program) (N : Nat) (Q : Exit → Act → World → Prop) (R : Ending → World → Prop) (base : World) (F : List Nat) : Out → Prop
  | .ret v s => All s.sides ∧ ∀ a w, Ok N base F s a w → R (.returned v.den) w
  | .again s I => All s.sides ∧ ∀ a w, Ok N base F s a w → I a w
  | .br p s o1 o2 => All s.sides ∧ (p = true → sem P N Q R base F o1) ∧ (p = false → sem P N Q R base F o2)
  | .call f args o s ks => All s.sides ∧ ((CallOk P f ∧ ∀ a w, Ok N base F s a w → Calls P f (SV.dens args).toArray w (fun e w' => ∃ v, e = .returned v ∧ KX P Q ks .normal (a.put o.dst v) w')) ∨ ∀ a w, Ok N base F s a w → opGoal P Q o ks a w)
  | .op o s ks => All s.sides ∧ ∀ a w, Ok N base F s a w → opGoal P Q o ks a w
  | .loop body s ks => All s.sides ∧ ∀ a w, Ok N base F s a w → KX P Q (.c (.loop body) :: ks) .normal a w
  | .draw id ops s ks => All s.sides ∧ ∀ a w, Ok N base F s a w → KX P Q (.c (.region id ops true) :: ks) .normal a w
  | .stuck _ => False
  | .bad .. => False
  | .badDraw .. => False

/-- a call whose outcome is known: it changes nothing that is known -/
def SumRes (P : Program) (f : FuncId) (args : List SV) (v : SV) (w : World) : Prop :=
  (callFunc f (SV.dens args).toArray).run P w = .ok (.value v.den) w ∨
  (callFunc f (SV.dens args).toArray).run P w = .ok (.enter f (SV.dens args).toArray) w ∧ Calls P f (SV.dens args).toArray w (fun e w' => e = .returned v.den ∧ Ext w [] w')
structure MdOk (P : Program) (md : Md) : Prop where
  T : md.T.All (TiOk P)
  mix : P.follows .mixedOrders = true
  sum : ∀ f args hp vs v sd, md.sum f args hp vs = some (v, sd) → All sd → ∀ base F env a w, OK base F env hp vs a w → SumRes P f args v w
  inl : ∀ f fi, md.inl f = some fi → CallOk P f ∧ ∃ fn, P.funcs[f]? = some fn ∧ fn.body = some fi.c ∧ fn.ntmps = fi.N ∧ fn.results.toList = fi.rs

theorem wrapSides_all : ∀ {p pol : Bool} {l sd r : List Sd}, wrapSides p pol l sd = some r → All r → (p = pol → All l) ∧ All sd
  | p, pol, [], sd, r, h, hr => by simp [wrapSides] at h; subst h; exact ⟨fun _ => trivial, hr⟩
  | p, pol, q :: l, sd, r, h, hr => by
    simp only [wrapSides] at h
    obtain ⟨h1, h2⟩ := wrapSides_all h hr
    exact ⟨fun e => ⟨h2.1 e, h1 e⟩, h2.2⟩
theorem gSides_all : ∀ {env : Env} {j : Nat} {pol pc : Bool} {l : List Operand} {sd r : List Sd}, gSides env j pol pc l sd = some r → All r →
    All sd ∧ ∀ x ∈ l, ∀ t, x = .tmp t → ∀ q y, look env t = some (.gd j pol q y) → q = pc
  | env, j, pol, pc, [], sd, r, h, hr => by simp [gSides] at h; subst h; exact ⟨hr, by simp⟩
  | env, j, pol, pc, x :: l, sd, r, h, hr => by
    have other : ∀ {sd'}, gSides env j pol pc l sd' = some r → All sd' ∧ ∀ x ∈ l, ∀ t, x = .tmp t → ∀ q y, look env t = some (.gd j pol q y) → q = pc := fun h => gSides_all h hr
    cases x with
    | tmp t =>
      simp only [gSides] at h
      split at h
      · rename_i j' pol' q y hl
        split at h
        · rename_i hb
          simp only [Bool.and_eq_true, beq_iff_eq] at hb
          obtain ⟨h1, h2⟩ := other h
          refine ⟨h1.2, fun x hx t' ht' q' y' hl' => ?_⟩
          simp only [List.mem_cons] at hx
          rcases hx with rfl | hx
          · injection ht' with ht'; subst ht'
            rw [hl] at hl'; injection hl' with hl'; injection hl' with e1 e2 e3 e4
            rw [← e3]; exact h1.1
          · exact h2 x hx t' ht' q' y' hl'
        · rename_i hb
          obtain ⟨h1, h2⟩ := other h
          refine ⟨h1, fun x hx t' ht' q' y' hl' => ?_⟩
          simp only [List.mem_cons] at hx
          rcases hx with rfl | hx
          · injection ht' with ht'; subst ht'
            rw [hl] at hl'; injection hl' with hl'; injection hl' with e1 e2 e3 e4
            subst e1; subst e2; simp at hb
          · exact h2 x hx t' ht' q' y' hl'
      · rename_i hnl
        obtain ⟨h1, h2⟩ := other h
        refine ⟨h1, fun x hx t' ht' q' y' hl' => ?_⟩
        simp only [List.mem_cons] at hx
        rcases hx with rfl | hx
        · injection ht' with ht'; subst ht'
          exact (hnl _ _ _ _ hl').elim
        · exact h2 x hx t' ht' q' y' hl'
    | const c =>
      simp only [gSides] at h
      obtain ⟨h1, h2⟩ := other h
      exact ⟨h1, fun x hx t' ht' => by
        simp only [List.mem_cons] at hx
        rcases hx with rfl | hx
        · cases ht'
        · exact h2 x hx t' ht'⟩
    | global c =>
      simp only [gSides] at h
      obtain ⟨h1, h2⟩ := other h
      exact ⟨h1, fun x hx t' ht' => by
        simp only [List.mem_cons] at hx
        rcases hx with rfl | hx
        · cases ht'
        · exact h2 x hx t' ht'⟩
    | func c =>
      simp only [gSides] at h
      obtain ⟨h1, h2⟩ := other h
      exact ⟨h1, fun x hx t' ht' => by
        simp only [List.mem_cons] at hx
        rcases hx with rfl | hx
        · cases ht'
        · exact h2 x hx t' ht'⟩

theorem evRes_sides : ∀ {l : List ResultVar} {sd : List Sd} {r : List SV} {sd' : List Sd}, evRes T env hp vs l sd = some (r, sd') → All sd' → All sd
  | [], sd, r, sd', h, hs => by simp [evRes] at h; obtain ⟨_, rfl⟩ := h; exact hs
  | .tmp t :: l, sd, r, sd', h, hs => by
    simp only [evRes] at h
    split at h <;> try (cases h; done)
    split at h <;> try (cases h; done)
    rename_i hh
    injection h with h; injection h with h1 h2; subst h2
    exact evRes_sides hh hs
  | .cell t ty :: l, sd, r, sd', h, hs => by
    simp only [evRes] at h
    split at h <;> try (cases h; done)
    split at h <;> try (cases h; done)
    split at h <;> try (cases h; done)
    rename_i hap
    split at h <;> try (cases h; done)
    rename_i hh
    injection h with h; injection h with h1 h2; subst h2
    exact (All.app hap (evRes_sides hh hs)).2

variable {N : Nat} {Q : Exit → Act → World → Prop} {R : Ending → World → Prop} {rs : List ResultVar} {md : Md}

theorem forceK_eq {α : Type} (cm : Bool) (v : SV) (k : SV → α) : forceK cm v k = k (force cm v) := by
  unfold forceK force
  repeat' split
  all_goals first | rfl | simp_all
theorem force_den (cm : Bool) (v : SV) : (force cm v).den = v.den := by
  unfold force
  repeat' split
  all_goals rfl

theorem qstep_sides {all : List Oper} {o : Oper} {sd sd' : List Sd} {v : SV} (h : qstep md env hp vs sd all o = some (v, sd')) (hs : All sd') : All sd := by
  unfold qstep at h
  repeat' (split at h <;> try (cases h; done))
  all_goals first
    | (rename_i hap
       injection h with h; injection h with h1 h2; subst h2
       exact (joinS_all hap hs).2)
    | (injection h with h; injection h with h1 h2; subst h2; exact hs)
    | (rename_i hws _ _ hgs
       injection h with h; injection h with h1 h2; subst h2
       exact (wrapSides_all hws (gSides_all hgs hs).1).2)
theorem recheck_sides {all : List Oper} {m : Nat} : ∀ {dn : List Nat} {sd sd' : List Sd}, recheck md env hp vs all m dn sd = some sd' → All sd' → All sd
  | [], sd, sd', h, hs => by simp [recheck] at h; subst h; exact hs
  | q :: l, sd, sd', h, hs => by
    simp only [recheck] at h
    split at h
    · exact recheck_sides h hs
    · split at h <;> try (cases h; done)
      split at h <;> try (cases h; done)
      split at h <;> try (cases h; done)
      split at h <;> try (cases h; done)
      rename_i hq
      rw [forceK_eq] at h
      split at h <;> try (cases h; done)
      split at h <;> try (cases h; done)
      rename_i hj
      exact qstep_sides hq (joinS_all hj (recheck_sides h hs)).2

theorem gstep_sides {N : Nat} {tj : Nat} {pol p : Bool} {o : Oper} {x : OR} {sd sd' : List Sd} {env' : Env} (h : gstep N env sd tj pol p o x = some (env', sd')) (hs : All sd') : All sd := by
  unfold gstep at h
  repeat' (split at h <;> try (cases h; done))
  rename_i hws _ _ hgs
  injection h with h; injection h with h1 h2; subst h2
  exact (wrapSides_all hws (gSides_all hgs hs).1).2

theorem finRet_sides {fs : List Frame} {k : Nat} {out : SV → List Sd → Out} {back : Frame → Env → List Sd → List Frame → Out} {sd : List Sd}
    (h1 : ∀ v sd', sem P N Q R base F (out v sd') → All sd') (h2 : ∀ f e sd' fs', sem P N Q R base F (back f e sd' fs') → All sd')
    (h : sem P N Q R base F (finRet fs k out back (evRes T env hp vs rs sd))) : All sd := by
  unfold finRet at h
  split at h
  · rename_i hr
    split at h
    · split at h
      · exact evRes_sides hr (h1 _ _ h)
      · split at h
        · exact evRes_sides hr (h2 _ _ _ _ h)
        · exact evRes_sides hr (h2 _ _ _ _ h)
    · exact h.elim
  · exact h.elim

/-- what has to hold is kept -/
def RecS (P : Program) (N : Nat) (Q : Exit → Act → World → Prop) (R : Ending → World → Prop) (base : World) (F : List Nat) (rec : Rec) : Prop :=
  ∀ M rs env hp vs sd nk ks fs, sem P N Q R base F (rec M rs env hp vs sd nk ks fs) → All sd
section
variable {fr : Nat → Nat × Nat} {rec : Rec} {M : Nat} {sd : List Sd} {nk : Nat} {ks ks0 : List K} {fs : List Frame} {o : Oper}

theorem doOp_sides (ih : RecS P N Q R base F rec) (h : sem P N Q R base F (doOp md fr rec M rs env hp vs sd nk ks fs o)) : All sd := by
  have go : ∀ {s1 : List Sd} {v : SV} {hp' : Hp} {nk' : Nat}, sem P N Q R base F (match joinS md.conc s1 sd with
      | some sd' => match o.dst with
        | some d => match Nat.blt d M with
          | true => forceK md.conc v (fun v => rec M rs ((d, v) :: env) hp' vs sd' nk' ks fs)
          | false => .stuck 12
        | none => rec M rs env hp' vs sd' nk' ks fs
      | none => .stuck 9) → All sd := by
    intro s1 v hp' nk' h
    split at h
    · rename_i hap
      split at h
      · split at h
        · rw [forceK_eq] at h
          exact (joinS_all hap (ih _ _ _ _ _ _ _ _ _ h)).2
        · exact h.elim
      · exact (joinS_all hap (ih _ _ _ _ _ _ _ _ _ h)).2
    · exact h.elim
  unfold doOp fin at h
  split at h
  · exact go h
  · exact go h
  · split at h
    · exact go h
    · split at h
      · split at h
        · split at h
          · split at h
            · exact ih _ _ _ _ _ _ _ _ _ h
            · exact h.elim
          · exact ih _ _ _ _ _ _ _ _ _ h
        · exact h.elim
      · split at h
        · split at h
          · exact h.1
          · exact h.elim
        · exact h.elim
  · split at h
    · split at h
      · exact h.1
      · exact h.elim
    · exact h.elim
theorem doSkip_sides (ih : RecS P N Q R base F rec) (h : sem P N Q R base F (doSkip rec M rs env hp vs sd nk ks fs o)) : All sd := by
  unfold doSkip finSkip at h
  split at h
  · split at h
    · exact ih _ _ _ _ _ _ _ _ _ h
    · exact h.elim
  · exact ih _ _ _ _ _ _ _ _ _ h
theorem stepO_sides (ih : RecS P N Q R base F rec) {all : Array Oper} {l : List Oper} (h : sem P N Q R base F (stepO md fr rec M rs env hp vs sd nk all o l ks fs)) : All sd := by
  unfold stepO at h
  split at h
  · exact doOp_sides ih h
  · unfold stepG at h
    split at h <;> try (exact h.elim)
    split at h <;> try (exact h.elim)
    split at h <;> try (exact h.elim)
    · split at h
      · exact doOp_sides ih h
      · exact doSkip_sides ih h
    · split at h
      · exact doOp_sides ih h
      · exact doSkip_sides ih h
    · exact doSkip_sides ih h
    · unfold doSym at h
      split at h
      · rename_i hg
        exact gstep_sides hg (ih _ _ _ _ _ _ _ _ _ h)
      · split at h <;> try (exact h.elim)
        exact h.1
    · unfold doSym2 at h
      split at h <;> try (exact h.elim)
      split at h
      · rename_i hg
        exact gstep_sides hg (ih _ _ _ _ _ _ _ _ _ h)
      · split at h <;> try (exact h.elim)
        exact h.1
theorem doRet_sides (ih : RecS P N Q R base F rec) {k : Nat} (h : sem P N Q R base F (doRet md rec rs env hp vs sd nk fs k)) : All sd :=
  finRet_sides (by intro v sd' h; exact h.1) (by intro f e sd' fs' h; exact ih _ _ _ _ _ _ _ _ _ h) h
theorem stepC_sides (ih : RecS P N Q R base F rec) {code : Code} (h : sem P N Q R base F (stepC md fr rec M rs env hp vs sd nk code ks fs)) : All sd := by
  unfold stepC at h
  split at h
  · exact ih _ _ _ _ _ _ _ _ _ h
  · exact ih _ _ _ _ _ _ _ _ _ h
  · exact ih _ _ _ _ _ _ _ _ _ h
  · unfold doIf at h
    split at h
    · exact ih _ _ _ _ _ _ _ _ _ h
    · exact ih _ _ _ _ _ _ _ _ _ h
    · exact h.1
    · exact h.elim
  · exact ih _ _ _ _ _ _ _ _ _ h
  · unfold doLoop at h
    split at h
    · exact ih _ _ _ _ _ _ _ _ _ h
    · split at h
      · split at h
        · exact h.1
        · exact h.elim
      · exact h.elim
  · split at h
    · exact ih _ _ _ _ _ _ _ _ _ h
    · exact h.elim
  · exact doRet_sides ih h
  · split at h
    · exact ih _ _ _ _ _ _ _ _ _ h
    · unfold doDraw doDrawF at h
      split at h
      · exact ih _ _ _ _ _ _ _ _ _ h
      · unfold leafD at h
        split at h
        · split at h
          · exact h.1
          · exact h.elim
        · exact h.elim
  · exact h.elim
theorem stepGap_sides (ih : RecS P N Q R base F rec) {ops : Array Oper} {f : Option Nat} {i : Nat} {rest dn : List Nat} (h : sem P N Q R base F (stepGap md fr rec M rs env hp vs sd nk ops f i rest dn ks fs o)) : All sd := by
  have hA : ∀ {f : Option Nat} {x : OR}, sem P N Q R base F (putA md M o env sd (.bad o ⟨env, hp, vs, sd, nk⟩) (fun env hp sd => rec M rs env hp vs sd (nk + 1) (.gap ops f rest dn :: ks) fs) x) → All sd := by
    intro f x h
    unfold putA at h
    split at h
    · split at h
      · rename_i hj
        split at h
        · split at h
          · exact (joinS_all hj (ih _ _ _ _ _ _ _ _ _ h)).2
          · exact h.elim
        · exact h.elim
      · exact h.elim
    · exact h.elim
  unfold stepGap at h
  split at h
  · split at h
    · exact hA h
    · exact h.elim
  · split at h
    · unfold putQ at h
      split at h
      · rename_i hq
        split at h
        · split at h
          · rw [forceK_eq] at h
            exact qstep_sides hq (ih _ _ _ _ _ _ _ _ _ h)
          · exact h.elim
        · exact h.elim
      · exact h.elim
    · split at h
      · exact hA h
      · exact h.elim
    · split at h
      · exact ih _ _ _ _ _ _ _ _ _ h
      · exact h.elim
theorem stepK_sides (ih : RecS P N Q R base F rec) (h : sem P N Q R base F (stepK md fr rec M rs env hp vs sd nk ks fs)) : All sd := by
  unfold stepK at h
  split at h
  · exact doRet_sides ih h
  · split at h
    · exact ih _ _ _ _ _ _ _ _ _ h
    · split at h
      · exact h.1
      · exact h.elim
    · split at h
      · exact ih _ _ _ _ _ _ _ _ _ h
      · exact h.elim
    · split at h
      · exact ih _ _ _ _ _ _ _ _ _ h
      · exact stepO_sides ih h
    · exact stepC_sides ih h
    · split at h
      · split at h
        · exact ih _ _ _ _ _ _ _ _ _ h
        · exact h.elim
      · split at h
        · exact stepGap_sides ih h
        · exact h.elim
    · exact h.elim
    · unfold stepChk at h
      split at h
      · split at h
        · rename_i hr
          exact recheck_sides hr (ih _ _ _ _ _ _ _ _ _ h)
        · split at h <;> exact h.elim
      · exact h.elim
end

theorem run_sides {fr : Nat → Nat × Nat} : ∀ (n M : Nat) (rs : List ResultVar) (env : Env) (hp : Hp) (vs : List MV) (sd : List Sd) (nk : Nat) (ks : List K) (fs : List Frame), sem P N Q R base F (run md fr n M rs env hp vs sd nk ks fs) → All sd
  | 0, M, rs, env, hp, vs, sd, nk, ks, fs, h => h.elim
  | n + 1, M, rs, env, hp, vs, sd, nk, ks, fs, h => by
    rw [run_succ] at h
    exact stepK_sides (fun M rs env hp vs sd nk ks fs h => run_sides n M rs env hp vs sd nk ks fs h) h
end
end Go.Vd
