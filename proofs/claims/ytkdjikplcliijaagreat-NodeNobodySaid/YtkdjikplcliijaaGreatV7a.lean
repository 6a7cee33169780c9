/-  The evaluator is sound, part 7a: one operation. -/
import Derived.Test.YtkdjikplcliijaaGreatV6b
namespace Go.Vd
section
variable {P : Program} {base : World} {F : List Nat} {env : Env} {hp : Hp} {vs : List MV} {a : Act} {w : World}
variable {b : World} {F' : List Nat} {L M : Nat}
variable {N N0 : Nat} {Q : Exit → Act → World → Prop} {R : Ending → World → Prop} {rs : List ResultVar} {md : Md}

/-- the callers that wait, and what they wait for -/
inductive FramesOk (P : Program) (fn0 : Func) (R : Ending → World → Prop) (N0 : Nat) (Pr : Nat → Obj → Prop) : Nat → List Frame → (Exit → Act → World → Prop) → List ResultVar → Nat → Prop
  | nil {M : Nat} : FramesOk P fn0 R N0 Pr M [] (bodyPost P fn0 R) fn0.results.toList N0
  | cons {M M' : Nat} {f : Frame} {ks' : List K} {fs : List Frame} {Q' : Exit → Act → World → Prop} {fn : Func} {a' : Act} {N : Nat} : FramesOk P fn0 R N0 Pr M' fs Q' f.rs f.N → KRel Pr M M' f.ks ks' → a'.tmps.size = f.N → okEnv f.env a' → a'.defers = [] → (∀ d, f.dst = some d → d < f.N) →
      FramesOk P fn0 R N0 Pr M (f :: fs) (bodyPost P fn (fun e w' => ∃ v, e = .returned v ∧ KX P Q' ks' .normal (a'.put f.dst v) w')) fn.results.toList N
theorem FramesOk.mono {fn0 : Func} {Pr Pr' : Nat → Obj → Prop} {M : Nat} {fs : List Frame} (h : FramesOk P fn0 R N0 Pr M fs Q rs N) : ∀ {M1 : Nat}, M ≤ M1 → (∀ B ob, B < M → Pr B ob → Pr' B ob) → FramesOk P fn0 R N0 Pr' M1 fs Q rs N := by
  induction h with
  | nil => exact fun _ _ => .nil
  | cons _ hk h1 h2 h3 h4 ih =>
    intro M1 hl hp
    have := hk.le
    exact .cons (ih (Nat.le_refl _) (fun B ob hB hP => hp B ob (by omega) hP)) (hk.mono hl hp) h1 h2 h3 h4
theorem FramesOk.low {fn0 : Func} {Pr : Nat → Obj → Prop} {S : Nat} (hS : ∀ B ob, Pr B ob → B < S) {M : Nat} {fs : List Frame} (h : FramesOk P fn0 R N0 Pr M fs Q rs N) : FramesOk P fn0 R N0 Pr (min M S) fs Q rs N := by
  induction h with
  | nil => exact .nil
  | cons _ hk h1 h2 h3 h4 ih => exact .cons ih (hk.low hS) h1 h2 h3 h4
theorem FramesOk.post {fn0 : Func} {Pr : Nat → Obj → Prop} {M : Nat} {fs : List Frame} (h : FramesOk P fn0 R N0 Pr M fs Q rs N) : ∀ c a a' w, a.defers = a'.defers → Q (.panic c) a w → Q (.panic c) a' w := by
  cases h with
  | nil => exact fun c a a' w hd h => ⟨by rw [← hd]; exact h.1, h.2⟩
  | cons _ _ _ _ _ _ => exact fun c a a' w hd h => ⟨by rw [← hd]; exact h.1, h.2⟩

def Sound (P : Program) (md : Md) (fn0 : Func) (R : Ending → World → Prop) (N0 : Nat) (base : World) (F : List Nat) (vs : List MV) (n : Nat) : Prop :=
  ∀ (b : World) (F' : List Nat), InclS base F vs b F' → ∀ (N : Nat) (Q : Exit → Act → World → Prop) (rs : List ResultVar) (env : Env) (hp : Hp) (sd : List Sd) (nk : Nat) (ks ks' : List K) (fs : List Frame) (pre : List (Nat × (Nat × Nat))) (L M : Nat),
    FramesOk P fn0 R N0 (Prot base b F') M fs Q rs N → KRel (Prot base b F') L M ks ks' → Pre nk pre → (∀ fr, Agree pre fr → sem P N0 (bodyPost P fn0 R) R base F (run md fr n N rs env hp vs sd nk ks fs)) →
    ∀ a w, OK b F' env hp vs a w → a.tmps.size = N → KX P Q ks' .normal a w

theorem parFrom_look : ∀ {i : Nat} {args : List SV} {t : Nat} {v : SV}, look (parFrom i args) t = some v → i ≤ t ∧ args[t - i]? = some v
  | _, [], _, _, h => by cases h
  | i, x :: l, t, v, h => by
    simp only [parFrom, look_cons] at h
    split at h
    · rename_i hb
      injection h with h; subst h
      have := Nat.eq_of_beq_eq_true hb; subst this
      simp
    · obtain ⟨h1, h2⟩ := parFrom_look h
      refine ⟨by omega, ?_⟩
      rw [show t - i = (t - (i + 1)) + 1 by omega]
      simpa using h2
theorem par_ok {args : List SV} {N : Nat} (hargs : args.length ≤ N) : okEnv (parEnv args) { tmps := (SV.dens args).toArray ++ Array.replicate (N - (SV.dens args).toArray.size) undef, defers := [] } := by
  intro t v hl
  obtain ⟨_, h2⟩ := parFrom_look hl
  simp only [Nat.sub_zero] at h2
  have ht : t < args.length := (List.getElem?_eq_some_iff.1 h2).1
  refine ⟨by simp [dens_length]; omega, ?_⟩
  rw [Array.getD_eq_getD_getElem?, Array.getElem?_append_left (by simpa [dens_length] using ht)]
  simp [dens_map, h2]

/-- an operation, carried out -/
theorem fin_sound (hM : MdOk P md) {fn0 : Func} {n : Nat} (ih : Sound P md fn0 R N0 base F vs n) (hi : InclS base F vs b F') {fs : List Frame} (hfs : FramesOk P fn0 R N0 (Prot base b F') M fs Q rs N) {all : Array Oper} {o : Oper} {l : List Oper} {ks ks' : List K} (hk : KRel (Prot base b F') L M ks ks')
    {sd : List Sd} {nk : Nat} {pre : List (Nat × (Nat × Nat))} (hpre : Pre nk pre) (ok : OK b F' env hp vs a w) (hN : a.tmps.size = N)
    (hw : Region.wanted o (yielded all a.tmps) = true)
    (H : ∀ fr, Agree pre fr → sem P N0 (bodyPost P fn0 R) R base F (fin md N rs o env hp vs sd nk (.ops all l :: ks) fs (fun env hp sd nk => run md fr n N rs env hp vs sd nk (.ops all l :: ks) fs)
        (fun fi args => run md fr n fi.N fi.rs (parEnv args) hp vs sd nk [.c fi.c] (⟨N, rs, env, o.dst, .ops all l :: ks⟩ :: fs)) (evOpS md.T fr nk env hp vs none o.op))) :
    wpList P all (KX P Q ks') (o :: l) a w := by
  have hg : ∀ x ∈ o.op.operands.toList, gOK env none x := fun x _ => gOK_none x
  obtain ⟨f, hf, hff⟩ := evOp_fr md.T nk env hp vs none o.op
  obtain ⟨bc, hbc⟩ := evOp_eff (P := P) (nk := nk) hM.T ok hg
  obtain ⟨fr0, hc0⟩ := hpre.agree
  -- a value that is told, the memory as it may be
  have go : ∀ {v : SV} {s1 : List Sd} {hp' : Hp} {nk' : Nat} {pre' : List (Nat × (Nat × Nat))} {w' : World}, Pre nk' pre' → OK b F' env hp' vs a w' →
      (∀ fr, Agree pre' fr → sem P N0 (bodyPost P fn0 R) R base F (match joinS md.conc s1 sd with
        | some sd' => match o.dst with
          | some d => match Nat.blt d N with
            | true => forceK md.conc v (fun v => run md fr n N rs ((d, v) :: env) hp' vs sd' nk' (.ops all l :: ks) fs)
            | false => .stuck 12
          | none => run md fr n N rs env hp' vs sd' nk' (.ops all l :: ks) fs
        | none => .stuck 9)) → wpList P all (KX P Q ks') l (a.put o.dst v.den) w' := by
    intro v s1 hp' nk' pre' w' hp1 ok' H
    obtain ⟨fr1, hc1⟩ := hp1.agree
    have H1 := H fr1 hc1
    obtain ⟨sd1, hj1, hj2⟩ := joinS_some md.conc s1 sd
    simp only [hj1] at H H1
    cases hd : o.dst with
    | none =>
      simp only [hd] at H
      exact ih _ _ hi _ _ _ _ _ _ _ (.ops all l :: ks) _ _ _ _ _ hfs (.cons _ hk) hp1 H _ _ ok' hN
    | some d =>
      simp only [hd] at H H1
      cases hb : Nat.blt d N with
      | false => simp only [hb] at H1; exact H1.elim
      | true =>
        simp only [hb, forceK_eq] at H
        rw [Nat.blt_eq] at hb
        rw [← force_den md.conc v]
        exact ih _ _ hi _ _ _ _ _ _ _ (.ops all l :: ks) _ _ _ _ _ hfs (.cons _ hk) hp1 H _ _ (ok_put ok' (by omega)) (by rw [size_put]; exact hN)
  have sds : ∀ {v : SV} {s1 : List Sd} {hp' : Hp} {nk' : Nat} {fr : Nat → Nat × Nat}, sem P N0 (bodyPost P fn0 R) R base F (match joinS md.conc s1 sd with
        | some sd' => match o.dst with
          | some d => match Nat.blt d N with
            | true => forceK md.conc v (fun v => run md fr n N rs ((d, v) :: env) hp' vs sd' nk' (.ops all l :: ks) fs)
            | false => .stuck 12
          | none => run md fr n N rs env hp' vs sd' nk' (.ops all l :: ks) fs
        | none => .stuck 9) → All s1 := by
    intro v s1 hp' nk' fr h
    obtain ⟨sd1, hj1, hj2⟩ := joinS_some md.conc s1 sd
    simp only [hj1] at h
    cases hd : o.dst with
    | none => simp only [hd] at h; exact (hj2 (run_sides _ _ _ _ _ _ _ _ _ _ h)).1
    | some d =>
      simp only [hd] at h
      split at h
      · rw [forceK_eq] at h
        exact (hj2 (run_sides _ _ _ _ _ _ _ _ _ _ h)).1
      · exact h.elim
  have notEff : ∀ {r : OR}, f bc = r → (∀ v hp' s1, r ≠ .eff v hp' s1) → ∀ fr, evOpS md.T fr nk env hp vs none o.op = r := by
    intro r hr hne fr
    rcases hff with h | h
    · rw [hf, h (fr nk) bc, hr]
    · obtain ⟨v, hp', s1, he⟩ := h bc
      rw [hr] at he
      exact absurd he (hne v hp' s1)
  cases hfb : f bc with
  | eff v hp' s1 =>
    have hp1 := hpre.cons bc
    have H1 : ∀ fr, Agree ((nk, bc) :: pre) fr → _ := fun fr hc => by
      have h := H fr (fun p hp => hc p (by simp [hp]))
      rw [hf, hc (nk, bc) (by simp), hfb] at h
      exact h
    obtain ⟨fr1, hc1⟩ := hp1.agree
    have hall := sds (H1 fr1 hc1)
    have e := hbc fr1 (hc1 (nk, bc) (by simp)) v hp' s1 (by rw [hf, hc1 (nk, bc) (by simp), hfb]) hall
    refine wpList_do hw ?_
    unfold Oper.wp
    cases e with
    | val w' h1 h2 => rw [h1, Oper.upon_value]; exact go hp1 h2 H1
    | skip w' h1 h2 h3 => rw [h1, Oper.upon_skip, ← h2]; exact go hp1 h3 H1
  | val v s1 =>
    have hr := notEff hfb (by intros; simp)
    simp only [hr] at H
    have hall := sds (H fr0 hc0)
    have e := evOp_val hM.T ok hg (hr fr0) hall
    refine wpList_do hw ?_
    unfold Oper.wp
    rw [e, Oper.upon_value]
    exact go hpre ok H
  | stop =>
    have hr := notEff hfb (by intros; simp)
    simp only [hr] at H
    have H0 := H fr0 hc0
    unfold fin at H0
    cases hfs with
    | nil =>
      simp only [] at H0
      cases hfl : noFl (.ops all l :: ks) with
      | false => rw [hfl] at H0; exact H0.elim
      | true =>
        rw [hfl] at H0
        have e := hk.noFl (by simpa [noFl] using hfl)
        subst e
        exact H0.2 a w ⟨hi.ok ok, hN⟩
    | cons _ _ _ _ _ _ => exact H0.elim
  | call g args =>
    have hr := notEff hfb (by intros; simp)
    simp only [hr] at H
    cases hsum : md.sum g args hp vs with
    | some p =>
      obtain ⟨v, s1⟩ := p
      simp only [fin, hsum] at H
      have hall := sds (H fr0 hc0)
      refine wpList_do hw ?_
      unfold Oper.wp
      rcases hM.sum _ _ _ _ _ _ hsum hall _ _ _ _ _ (hi.ok ok) with h1 | ⟨h1, h2⟩
      · rw [evOp_call hM.T ok hg (hr fr0) h1, Oper.upon_value]
        exact go hpre ok H
      · rw [evOp_call hM.T ok hg (hr fr0) h1, Oper.upon_enter]
        exact h2.mono fun e W' ⟨h3, h4⟩ => by subst h3; exact go hpre (ok_ro ok h4) H
    | none =>
      cases hinl : md.inl g with
      | none =>
        simp only [fin, hsum, hinl] at H
        have H0 := H fr0 hc0
        cases hfs with
        | cons _ _ _ _ _ _ => exact H0.elim
        | nil =>
          simp only [] at H0
          cases hfl : noFl (.ops all l :: ks) with
          | false => rw [hfl] at H0; exact H0.elim
          | true =>
          rw [hfl] at H0
          have ek := hk.noFl (by simpa [noFl] using hfl)
          subst ek
          rcases H0.2 with ⟨hco, hc⟩ | hop
          · have e := evOp_call hM.T ok hg (hr fr0) (hco _ _)
            refine wpList_do hw ?_
            unfold Oper.wp
            rw [e, Oper.upon_enter]
            exact (hc a w ⟨hi.ok ok, hN⟩).mono fun e w' ⟨v, hv, hk⟩ => by subst hv; exact hk
          · exact hop a w ⟨hi.ok ok, hN⟩
      | some fi =>
        obtain ⟨hco, fng, g1, g2, g3, g4⟩ := hM.inl _ _ hinl
        have e := evOp_call hM.T ok hg (hr fr0) (hco _ _)
        refine wpList_do hw ?_
        unfold Oper.wp
        rw [e, Oper.upon_enter]
        have H0 := H fr0 hc0
        simp only [fin, hsum, hinl] at H H0
        cases hle : Nat.ble args.length fi.N with
        | false => simp only [hle] at H0; exact H0.elim
        | true =>
          simp only [hle] at H H0
          have hle := Nat.le_of_ble_eq_true hle
          have hdst : ∀ d, o.dst = some d → d < N := by
            intro d hd
            simp only [hd] at H0
            cases hb : Nat.blt d N with
            | false => simp only [hb] at H0; exact H0.elim
            | true => rw [Nat.blt_eq] at hb; exact hb
          have H' : ∀ fr, Agree pre fr → sem P N0 (bodyPost P fn0 R) R base F (run md fr n fi.N fi.rs (parEnv args) hp vs sd nk [.c fi.c] (⟨N, rs, env, o.dst, .ops all l :: ks⟩ :: fs)) := by
            intro fr hc
            have h := H fr hc
            cases hd : o.dst with
            | none => simp only [hd] at h; exact h
            | some d =>
              simp only [hd] at h
              rw [show Nat.blt d N = true by rw [Nat.blt_eq]; exact hdst d hd] at h
              exact h
          have hcall : Calls P g (SV.dens args).toArray w (fun e w' => ∃ v, e = .returned v ∧ KX P Q (.ops all l :: ks') .normal (a.put o.dst v) w') := by
            refine calls_of_wp g1 g2 ?_
            have hframes : FramesOk P fn0 R N0 (Prot base b F') L (⟨N, rs, env, o.dst, .ops all l :: ks⟩ :: fs) (bodyPost P fng (fun e w' => ∃ v, e = .returned v ∧ KX P Q (.ops all l :: ks') .normal (a.put o.dst v) w')) fi.rs fi.N := by
              rw [← g4]
              exact FramesOk.cons (f := ⟨N, rs, env, o.dst, .ops all l :: ks⟩) hfs (.cons _ hk) hN ok.env ok.defers hdst
            have hz : ((SV.dens args).toArray ++ Array.replicate (fng.ntmps - (SV.dens args).toArray.size) undef).size = fi.N := by
              simp [dens_length, g3]; omega
            refine ih _ _ hi fi.N _ fi.rs (parEnv args) hp sd nk [.c fi.c] [.c fi.c] _ pre L L hframes (KRel.refl _ (Nat.le_refl _) _) hpre H' _ w ⟨rfl, ?_, ok.heap, ok.nodup, ok.own, ok.ext, ok.vs⟩ hz
            rw [g3]
            exact par_ok hle
          exact hcall.mono fun e w' ⟨v, hv, hk⟩ => by subst hv; exact hk

theorem gstep_fr {T : BT} {nk : Nat} {gd : Option (Nat × Bool)} {sd : List Sd} {tj : Nat} {pol p : Bool} {o : Oper} :
    (∃ r, ∀ fr, evOpS T fr nk env hp vs gd o.op = r) ∨ ∀ fr, gstep N env sd tj pol p o (evOpS T fr nk env hp vs gd o.op) = none := by
  obtain ⟨f, hf, h | h⟩ := evOp_fr T nk env hp vs gd o.op
  · exact .inl ⟨f (0, 0), fun fr => by rw [hf]; exact h _ _⟩
  · refine .inr fun fr => ?_
    obtain ⟨v, hp', s1, he⟩ := h (fr nk)
    rw [hf, he]; rfl

/-- a guarded operation, the guard undecided -/
theorem gsound (hM : MdOk P md) {fn0 : Func} {n : Nat} (ih : Sound P md fn0 R N0 base F vs n) (hi : InclS base F vs b F') {fs : List Frame} (hfs : FramesOk P fn0 R N0 (Prot base b F') M fs Q rs N) {all : Array Oper} {o : Oper} {l : List Oper} {ks ks' : List K} (hk : KRel (Prot base b F') L M ks ks')
    {sd : List Sd} {nk : Nat} {pre : List (Nat × (Nat × Nat))} {tj : Nat} {pol p : Bool} {alt : (Nat → Nat × Nat) → Out}
    (hpre : Pre nk pre) (ok : OK b F' env hp vs a w) (hN : a.tmps.size = N) (hw : Region.wanted o (yielded all a.tmps) = (p == pol))
    (halt : (∀ fr, Agree pre fr → sem P N0 (bodyPost P fn0 R) R base F (alt fr)) → wpList P all (KX P Q ks') (o :: l) a w)
    (H : ∀ fr, Agree pre fr → sem P N0 (bodyPost P fn0 R) R base F (match gstep N env sd tj pol p o (evOpS md.T fr nk env hp vs (some (tj, pol)) o.op) with
      | some (env', sd') => run md fr n N rs env' hp vs sd' nk (.ops all l :: ks) fs
      | none => alt fr)) : wpList P all (KX P Q ks') (o :: l) a w := by
  obtain ⟨fr0, hc0⟩ := hpre.agree
  rcases gstep_fr (T := md.T) (N := N) (env := env) (hp := hp) (vs := vs) (nk := nk) (gd := some (tj, pol)) (sd := sd) (tj := tj) (pol := pol) (p := p) (o := o) with ⟨r, hr⟩ | hn
  · cases hg : gstep N env sd tj pol p o r with
    | none => exact halt (fun fr h2 => by have := H fr h2; rw [hr, hg] at this; exact this)
    | some q =>
      obtain ⟨env', sd'⟩ := q
      have H' : ∀ fr, Agree pre fr → sem P N0 (bodyPost P fn0 R) R base F (run md fr n N rs env' hp vs sd' nk (.ops all l :: ks) fs) := fun fr h2 => by have := H fr h2; rw [hr, hg] at this; exact this
      have hall := run_sides _ _ _ _ _ _ _ _ _ _ (H' fr0 hc0)
      unfold gstep at hg
      split at hg <;> try (cases hg; done)
      rename_i v s1
      split at hg <;> try (cases hg; done)
      rename_i d hd
      split at hg <;> try (cases hg; done)
      rename_i hb
      split at hg <;> try (cases hg; done)
      rename_i sd1 hws
      split at hg <;> try (cases hg; done)
      rename_i sd2 hgs
      injection hg with hg; injection hg with g1 g2; subst g1; subst g2
      rw [Nat.blt_eq] at hb
      obtain ⟨ha1, ha2⟩ := gSides_all hgs hall
      obtain ⟨ha3, ha4⟩ := wrapSides_all hws ha1
      have okp : OK b F' ((d, .gd tj pol p v) :: env) hp vs (a.put (some d) (SV.gd tj pol p v).den) w := ok_put ok (by omega)
      have fini : wpList P all (KX P Q ks') l (a.put (some d) (SV.gd tj pol p v).den) w := ih _ _ hi _ _ _ _ _ _ _ (.ops all l :: ks) _ _ _ _ _ hfs (.cons _ hk) hpre H' _ _ okp (by rw [size_put]; exact hN)
      by_cases hpp : p = pol
      · have hg : ∀ x ∈ o.op.operands.toList, gOK env (some (tj, pol)) x := by
          intro x hx t ht j' pol' q y hlk he
          injection he with he; injection he with he1 he2; subst he1; subst he2
          rw [ha2 x hx t ht q y hlk]; exact hpp
        have e := evOp_val hM.T ok hg (hr fr0) (ha3 hpp)
        refine wpList_do (by rw [hw]; simp [hpp]) ?_
        unfold Oper.wp
        rw [e, Oper.upon_value, hd]
        have e3 : (SV.gd tj pol p v).den = v.den := by simp [SV.den, hpp]
        rw [← e3]; exact fini
      · refine wpList_skip (by rw [hw]; simpa using hpp) ?_
        rw [hd]
        have e3 : (SV.gd tj pol p v).den = undef := by simp [SV.den, hpp]
        rw [← e3]; exact fini
  · exact halt (fun fr h2 => by have := H fr h2; rw [hn fr] at this; exact this)

/-- the end of a function -/
theorem ret_sound (hM : MdOk P md) {fn0 : Func} {n : Nat} (ih : Sound P md fn0 R N0 base F vs n) (hi : InclS base F vs b F') {fs : List Frame} (hfs : FramesOk P fn0 R N0 (Prot base b F') M fs Q rs N) {sd : List Sd} {nk k : Nat} {pre : List (Nat × (Nat × Nat))} (hpre : Pre nk pre)
    (ok : OK b F' env hp vs a w) (hN : a.tmps.size = N) {e : Exit} (he : e = .ret ∨ e = .normal)
    (H : ∀ fr, Agree pre fr → sem P N0 (bodyPost P fn0 R) R base F (finRet fs k (fun v sd' => .ret v ⟨env, hp, vs, sd', nk⟩) (fun f env' sd' fs' => run md fr n f.N f.rs env' hp vs sd' nk f.ks fs') (evRes md.T env hp vs rs sd))) : Q e a w := by
  obtain ⟨fr0, hc0⟩ := hpre.agree
  have H0 := H fr0 hc0
  cases hr : evRes md.T env hp vs rs sd with
  | none => rw [hr] at H0; exact H0.elim
  | some p =>
    obtain ⟨r, sd'⟩ := p
    simp only [hr, finRet] at H H0
    cases hv : packRes r with
    | none => rw [hv] at H0; exact H0.elim
    | some v =>
      simp only [hv] at H H0
      cases hfs with
      | nil =>
        have e1 := packRes_run hM.T ok hr H0.1 hv
        rcases he with rfl | rfl
        · exact ⟨ok.defers, v.den, e1, H0.2 a w ⟨hi.ok ok, hN⟩⟩
        · exact ⟨ok.defers, v.den, e1, H0.2 a w ⟨hi.ok ok, hN⟩⟩
      | cons h1 hkf h2 h3 h4 h5 =>
        rename_i M' f ks' fs Q' fn a'
        have hall : All sd' := by
          cases hd : f.dst with
          | none => simp only [hd] at H0; exact run_sides _ _ _ _ _ _ _ _ _ _ H0
          | some d => simp only [hd] at H0; exact run_sides _ _ _ _ _ _ _ _ _ _ H0
        have e1 := packRes_run hM.T ok hr hall hv
        have fini : KX P Q' ks' .normal (a'.put f.dst v.den) w := by
          have okc : OK b F' f.env hp vs a' w := ⟨h4, h3, ok.heap, ok.nodup, ok.own, ok.ext, ok.vs⟩
          cases hd : f.dst with
          | none => simp only [hd] at H; exact ih _ _ hi _ _ _ _ _ _ _ _ _ _ _ _ _ h1 hkf hpre H _ _ okc h2
          | some d =>
            simp only [hd] at H
            exact ih _ _ hi _ _ _ _ _ _ _ _ _ _ _ _ _ h1 hkf hpre H _ _ (ok_put okc (by rw [h2]; exact h5 d hd)) (by rw [size_put]; exact h2)
        rcases he with rfl | rfl
        · exact ⟨ok.defers, v.den, e1, _, rfl, fini⟩
        · exact ⟨ok.defers, v.den, e1, _, rfl, fini⟩

end
end Go.Vd
