/-  The evaluator is sound, part 7: the theorem. -/
import Derived.Test.YtkdjikplcliijaaGreatV7a
namespace Go.Vd
section
variable {P : Program} {base : World} {F : List Nat} {env : Env} {hp : Hp} {vs : List MV} {a : Act} {w : World}
variable {b : World} {F' : List Nat} {L M : Nat}
variable {N N0 : Nat} {Q : Exit → Act → World → Prop} {R : Ending → World → Prop} {rs : List ResultVar} {md : Md}

theorem wp_conv {o : Oper} {X' X : Exit → Act → World → Prop} {K' K : Act → World → Prop} (hK : ∀ a w, K' a w → K a w) (hX : ∀ e a w, e ≠ .normal → X' e a w → X e a w) (h : o.wp P a w K' X') : o.wp P a w K X := by
  have hl : LetsOut X' → LetsOut X := fun ⟨a, w, h⟩ => ⟨a, w, hX _ _ _ (by simp) h⟩
  unfold Oper.wp at *
  generalize (execOp a.eval o).run P w = r at *
  cases r with
  | ok n w' =>
    cases n <;> simp only [Oper.upon] at h ⊢ <;>
      first
        | exact hK _ _ h
        | exact Calls.mono h (fun e w'' he => by cases e <;> first | exact hK _ _ he | exact hX _ _ _ (by simp) he | exact hl he)
        | exact Rows.mono h (fun _ _ he => hK _ _ he)
        | exact h
  | halt x w' => cases x <;> simp only [Oper.upon] at h ⊢ <;> first | exact hX _ _ _ (by simp) h | exact h
theorem wpList_one {all : Array Oper} {o : Oper} {i : Nat} {X' X : Exit → Act → World → Prop} {K : Act → World → Prop} (ho : all[i]? = some o) (hK : ∀ a w, X' .normal a w → K a w) (hX : ∀ e a w, e ≠ .normal → X' e a w → X e a w)
    (h : wpList P all X' [o] a w) : wpOp P all X i K a w := by
  unfold wpList at h
  unfold Go.wpOp
  simp only [ho]
  split at h
  · rename_i hw
    rw [if_pos hw]
    rcases h with h | ⟨h1, a', w', h2⟩
    · exact .inl (wp_conv hK hX h)
    · exact .inr ⟨h1, a', w', hX _ _ _ (by simp) h2⟩
  · rename_i hw
    rw [if_neg hw]
    exact hK _ _ h

/-- operation i of a plan -/
theorem gapStep_sound (hM : MdOk P md) {fn0 : Func} {n : Nat} (ih : Sound P md fn0 R N0 base F vs n) (hi : InclS base F vs b F') {fs : List Frame} (hfs : FramesOk P fn0 R N0 (Prot base b F') M fs Q rs N)
    {ks ks' : List K} (cont : List Nat → List K) {ops : Array Oper} {f : Option Nat} {i : Nat} {rest dn : List Nat} {o : Oper} {sd : List Sd} {nk : Nat} {pre : List (Nat × (Nat × Nat))}
    (hf : isF f i = false → ∀ dn, KRel (Prot base b F') L M (.gap ops f rest dn :: ks) (cont dn)) (hf' : isF f i = true → ∀ dn, KRel (Prot base b F') L M (.gap ops none rest dn :: ks) (cont dn))
    (hx : ∀ dn e a w, e ≠ .normal → KX P Q (cont dn) e a w = KX P Q ks' e a w) (ho : ops[i]? = some o) (hpre : Pre nk pre) (ok : OK b F' env hp vs a w) (hN : a.tmps.size = N)
    (H : ∀ fr, Agree pre fr → sem P N0 (bodyPost P fn0 R) R base F (stepGap md fr (run md fr n) N rs env hp vs sd nk ops f i rest dn ks fs o)) :
    GapStep P ops (KX P Q ks') i dn (fun dn a w => KX P Q (cont dn) .normal a w) a w := by
  obtain ⟨fr0, hc0⟩ := hpre.agree
  have H0 := H fr0 hc0
  -- an operation that lays a block
  have hA : ∀ (g : Option Nat), (∀ dn, KRel (Prot base b F') L M (.gap ops g rest dn :: ks) (cont dn)) → cls o = .a →
      (∀ fr, Agree pre fr → sem P N0 (bodyPost P fn0 R) R base F (putA md N o env sd (.bad o ⟨env, hp, vs, sd, nk⟩) (fun env hp sd => run md fr n N rs env hp vs sd (nk + 1) (.gap ops g rest dn :: ks) fs) (evOp md.T fr nk env hp vs none o.op))) →
      GapStep P ops (KX P Q ks') i dn (fun dn a w => KX P Q (cont dn) .normal a w) a w := by
    intro g hg hc HA
    obtain ⟨fo, hfo, _⟩ := evOp_fr md.T nk env hp vs none o.op
    have hp1 := hpre.cons (w.heap.size, 0)
    have HA1 : ∀ fr, Agree ((nk, (w.heap.size, 0)) :: pre) fr → _ := fun fr hc => by
      have h := HA fr (fun p hp => hc p (by simp [hp]))
      rw [evOp_eq, hfo, hc (nk, (w.heap.size, 0)) (by simp)] at h
      exact h
    obtain ⟨fr1, hc1⟩ := hp1.agree
    have H1 := HA1 fr1 hc1
    cases hr : fo (w.heap.size, 0) with
    | val v s1 => rw [hr] at H1; exact H1.elim
    | call f args => rw [hr] at H1; exact H1.elim
    | stop => rw [hr] at H1; exact H1.elim
    | eff v hp' s1 =>
      rw [hr] at H1
      rw [hr] at HA1
      have he : evOpS md.T fr1 nk env hp vs none o.op = .eff v hp' s1 := by rw [hfo, hc1 (nk, (w.heap.size, 0)) (by simp), hr]
      obtain ⟨cs, len, E, hnew, hlay⟩ := lays_of hM.T ok (by rw [hc]; rfl) he
      have hfr := hc1 (nk, (w.heap.size, 0)) (by simp)
      simp only at hfr
      obtain ⟨hv, hhp⟩ : v.den = mkV len w.heap.size ∧ hp' = (nk, w.heap.size, .cells cs 0) :: hp := by
        unfold newChunk at hnew
        split at hnew
        · injection hnew with h1 h2 h3; subst h1; subst h2
          exact ⟨by simp [SV.den, mkV, hfr], by rw [hfr]⟩
        · injection hnew with h1 h2 h3; subst h1; subst h2
          exact ⟨by simp [SV.den, mkV, hfr, Ex.val], by rw [hfr]⟩
      have okn := newChunk_ok (k := nk) (cs := cs) (E := E) ok
      rw [← hhp] at okn
      obtain ⟨sd1, hj1, _⟩ := joinS_some md.conc s1 sd
      simp only [putA, hj1] at H1 HA1
      cases hd : o.dst with
      | none => simp only [hd] at H1; exact H1.elim
      | some d =>
        simp only [hd] at H1 HA1
        cases hb : Nat.blt d N with
        | false => simp only [hb] at H1; exact H1.elim
        | true =>
          simp only [hb] at HA1
          rw [Nat.blt_eq] at hb
          refine ⟨o, ho, ?_⟩
          rw [hc]
          refine ⟨d, mkV len, _, hd, by rw [hN]; exact hb, hlay, ?_⟩
          rw [← hv]
          exact ih _ _ hi _ _ _ _ _ _ _ _ _ _ _ _ _ hfs (hg dn) hp1 HA1 _ _ (ok_put okn (by omega)) (by rw [size_put]; exact hN)
  unfold stepGap at H H0
  cases hif : isF f i with
  | true =>
    simp only [hif] at H H0
    cases hc : cls o with
    | q => simp only [hc] at H0; exact H0.elim
    | e => simp only [hc] at H0; exact H0.elim
    | a =>
      simp only [hc] at H
      exact hA none (hf' hif) hc H
  | false =>
    simp only [hif] at H H0
    cases hc : cls o with
    | q =>
      simp only [hc] at H H0
      cases hq : qstep md env hp vs sd ops.toList o with
      | none => simp only [hq, putQ] at H0; exact H0.elim
      | some p =>
        obtain ⟨v, sd'⟩ := p
        simp only [hq, putQ] at H H0
        cases hd : o.dst with
        | none => simp only [hd] at H0; exact H0.elim
        | some d =>
          simp only [hd] at H H0
          cases hb : Nat.blt d N with
          | false => simp only [hb] at H0; exact H0.elim
          | true =>
            simp only [hb, forceK_eq] at H H0
            rw [Nat.blt_eq] at hb
            have hall := run_sides _ _ _ _ _ _ _ _ _ _ H0
            have hX := qstep_sound hM hq hall ok
            rw [← force_den md.conc v] at hX
            refine ⟨o, ho, ?_⟩
            rw [hc]
            refine ⟨d, _, hd, by rw [hN]; exact hb, hX, ?_⟩
            exact ih _ _ hi _ _ _ _ _ _ _ _ _ _ _ _ _ hfs (hf hif (i :: dn)) hpre H _ _ (ok_put ok (by omega)) (by rw [size_put]; exact hN)
    | a =>
      simp only [hc] at H H0
      have hea : ∀ fr, Agree pre fr → early md fr N env hp vs nk ops (i :: rest) f = true := by
        intro fr hc
        have h := H fr hc
        cases he : early md fr N env hp vs nk ops (i :: rest) f with
        | true => rfl
        | false => rw [he] at h; exact h.elim
      refine hA f (hf hif) hc (fun fr hc => ?_)
      have h := H fr hc
      rw [hea fr hc] at h; exact h
    | e =>
      simp only [hc] at H
      have H' : ∀ fr, Agree pre fr → sem P N0 (bodyPost P fn0 R) R base F (run md fr n N rs env hp vs sd nk (.ops ops [o] :: .chk ops i dn :: .gap ops f rest dn :: ks) fs) := by
        intro fr hc
        have h := H fr hc
        cases he : early md fr N env hp vs nk ops (i :: rest) f with
        | true => rw [he] at h; exact h
        | false => rw [he] at h; exact h.elim
      have h := ih _ _ hi _ _ _ _ _ _ _ _ (.ops ops [o] :: .chk ops i dn :: cont dn) _ _ _ _ hfs (.cons _ (.cons _ (hf hif dn))) hpre H' _ _ ok hN
      refine ⟨o, ho, ?_⟩
      rw [hc]
      refine wpList_one ho (fun a w h => h) (fun e a w he h => ?_) h
      rw [← hx dn e a w he]
      cases e <;> first | exact absurd rfl he | exact h

theorem early_sound (hM : MdOk P md) {fr : Nat → Nat × Nat} {nk : Nat} {ops : Array Oper} {plan : List Nat} {f : Nat} (ok : OK b F' env hp vs a w) (hN : a.tmps.size = N) (h : early md fr N env hp vs nk ops plan (some f) = true) {o : Oper} (ho : ops[f]? = some o)
    (hw : waitsOut plan o.after.toList = true) : ∃ d mk cs E, o.dst = some d ∧ d < a.tmps.size ∧ (cls o).isA = true ∧ laysB P o a mk (.cells (SV.dens cs).toArray E (0, 0)) := by
  simp only [early, nth_eq, Array.getElem?_toList, ho, hw] at h
  cases hd : o.dst with
  | none => simp only [hd] at h; cases h
  | some d =>
    simp only [hd] at h
    cases hb : Nat.blt d N with
    | false => simp only [hb] at h; cases h
    | true =>
      simp only [hb] at h
      rw [Nat.blt_eq] at hb
      cases hc : cls o with
      | q => simp only [hc] at h; cases h
      | e => simp only [hc] at h; cases h
      | a =>
        simp only [hc] at h
        split at h <;> try (cases h; done)
        rename_i v hp' s1 he
        rw [evOp_eq] at he
        obtain ⟨cs, len, E, _, hlay⟩ := lays_of hM.T ok (by rw [hc]; rfl) he
        exact ⟨d, _, cs, E, rfl, by rw [hN]; exact hb, by simp [PC.isA], hlay⟩

/-- the operation that has come up already -/
theorem gapF_sound (hM : MdOk P md) {fn0 : Func} {n : Nat} (ih : Sound P md fn0 R N0 base F vs n) (hi : InclS base F vs b F') {fs : List Frame} {B : Nat} {ob : Obj} (hfs : FramesOk P fn0 R N0 (Prot base b F') M fs Q rs N)
    {ks ks' : List K} {ops : Array Oper} {f : Nat} {rest dn : List Nat} {o : Oper} {sd : List Sd} {nk : Nat} {pre : List (Nat × (Nat × Nat))} (hk : KRel (Prot base b F') B M ks ks') (hP : Prot base b F' B ob)
    (ho : ops[f]? = some o) (hpre : Pre nk pre) (ok : OK b F' env hp vs a w) (hN : a.tmps.size = N)
    (H : ∀ fr, Agree pre fr → sem P N0 (bodyPost P fn0 R) R base F (stepGap md fr (run md fr n) N rs env hp vs sd nk ops (some f) f rest dn ks fs o))
    {d : Nat} {mk : Nat → Value} (hd : o.dst = some d) (hlay : laysB P o a mk ob) : GapZ P ops (KX P Q ks') rest dn (a.put (some d) (mk B)) w := by
  obtain ⟨fr0, hc0⟩ := hpre.agree
  have H0 := H fr0 hc0
  have hif : isF (some f) f = true := isF_spec.2 rfl
  unfold stepGap at H H0
  simp only [hif] at H H0
  cases hc : cls o with
  | q => simp only [hc] at H0; exact H0.elim
  | e => simp only [hc] at H0; exact H0.elim
  | a =>
    simp only [hc] at H
    obtain ⟨fo, hfo, _⟩ := evOp_fr md.T nk env hp vs none o.op
    have hp1 := hpre.cons (B, 0)
    have HA1 : ∀ fr, Agree ((nk, (B, 0)) :: pre) fr → _ := fun fr hc => by
      have h := H fr (fun p hp => hc p (by simp [hp]))
      rw [evOp_eq, hfo, hc (nk, (B, 0)) (by simp)] at h
      exact h
    obtain ⟨fr1, hc1⟩ := hp1.agree
    have H1 := HA1 fr1 hc1
    cases hr : fo (B, 0) with
    | val v s1 => rw [hr] at H1; exact H1.elim
    | call f args => rw [hr] at H1; exact H1.elim
    | stop => rw [hr] at H1; exact H1.elim
    | eff v hp' s1 =>
      rw [hr] at H1
      rw [hr] at HA1
      have he : evOpS md.T fr1 nk env hp vs none o.op = .eff v hp' s1 := by rw [hfo, hc1 (nk, (B, 0)) (by simp), hr]
      obtain ⟨cs, len, E, hnew, hlay'⟩ := lays_of hM.T ok (by rw [hc]; rfl) he
      have hfr := hc1 (nk, (B, 0)) (by simp)
      simp only at hfr
      obtain ⟨hv, hhp⟩ : v.den = mkV len B ∧ hp' = (nk, B, .cells cs 0) :: hp := by
        unfold newChunk at hnew
        split at hnew
        · injection hnew with h1 h2 h3; subst h1; subst h2
          exact ⟨by simp [SV.den, mkV, hfr], by rw [hfr]⟩
        · injection hnew with h1 h2 h3; subst h1; subst h2
          exact ⟨by simp [SV.den, mkV, hfr, Ex.val], by rw [hfr]⟩
      -- the same block
      have hsame : mk B = mkV len B ∧ ob = .cells (SV.dens cs).toArray E (0, 0) := by
        let W : World := { w with heap := Array.replicate B (.cells #[] 0 (0, 0)) }
        have e1 := hlay W
        have e2 := hlay' W
        rw [e1] at e2
        injection e2 with e2 e3
        injection e2 with e2
        have hs : W.heap.size = B := by simp [W]
        rw [hs] at e2
        refine ⟨e2, ?_⟩
        have := congrArg (fun x : World => x.heap.back?) e3
        simpa using this
      obtain ⟨hmk, rfl⟩ := hsame
      obtain ⟨g1, g2, g3⟩ := unprot hi ok hP nk
      rw [← hhp] at g2
      obtain ⟨sd1, hj1, _⟩ := joinS_some md.conc s1 sd
      simp only [putA, hj1, hd] at H1 HA1
      cases hb : Nat.blt d N with
      | false => simp only [hb] at H1; exact H1.elim
      | true =>
        simp only [hb] at HA1
        rw [Nat.blt_eq] at hb
        rw [hmk, ← hv]
        have hM' := hk.le
        exact ih _ _ g1 _ _ _ _ _ _ _ _ (.gap ops none rest dn :: ks') _ _ _ _ (hfs.mono (Nat.le_refl _) (fun B' ob' hl hp' => g3 B' ob' (by omega) hp')) (.cons _ (hk.mono (Nat.le_refl _) (fun B' ob' hl hp' => g3 B' ob' hl hp'))) hp1 HA1 _ _ (ok_put g2 (by omega)) (by rw [size_put]; exact hN)

theorem dedup_look : ∀ {env env' : Env} {m : Nat}, dedup env m = some env' → ∀ t v, look env' t = some v → look env t = some v ∧ bitB m t = false
  | [], env', m, h, t, v, hv => by simp [dedup_nil] at h; subst h; simp [look_nil] at hv
  | (k, x) :: l, env', m, h, t, v, hv => by
    simp only [dedup_cons] at h
    split at h
    · rename_i hb
      obtain ⟨h1, h2⟩ := dedup_look h t v hv
      refine ⟨?_, h2⟩
      simp only [look_cons]
      split
      · rename_i hk
        have := Nat.eq_of_beq_eq_true hk; subst this
        have hb : bitB m k = true := hb
        rw [hb] at h2; cases h2
      · exact h1
    · rename_i hb
      have hb : bitB m k = false := hb
      split at h <;> try (cases h; done)
      rename_i r hr
      injection h with h; subst h
      simp only [look_cons] at hv ⊢
      split at hv
      · rename_i hk
        have := Nat.eq_of_beq_eq_true hk; subst this
        exact ⟨hv, hb⟩
      · rename_i hk
        obtain ⟨h1, h2⟩ := dedup_look hr t v hv
        refine ⟨h1, ?_⟩
        rw [bitB_spec] at h2 ⊢
        have h2' : (m ||| (1 <<< k)).testBit t = false := h2
        rw [Nat.testBit_or] at h2'
        simp only [Bool.or_eq_false_iff] at h2'
        exact h2'.1

theorem run_sound (hM : MdOk P md) {fn0 : Func} : ∀ (n : Nat), Sound P md fn0 R N0 base F vs n := by
  intro n
  induction n with
  | zero =>
    intro b F' hi N Q rs env hp sd nk ks ks' fs pre L M hfs hk hpre H a w ok hN
    obtain ⟨fr0, hc0⟩ := hpre.agree
    exact (H fr0 hc0).elim
  | succ n ih =>
    intro b F' hi N Q rs env hp sd nk ks ks' fs pre L M hfs hk hpre H a w ok hN
    obtain ⟨fr0, hc0⟩ := hpre.agree
    have H0 := H fr0 hc0
    simp only [run_succ, stepK] at H H0
    have okb := hi.ok ok
    cases hk with
    | nil hle => exact ret_sound hM ih hi hfs hpre ok hN (.inr rfl) H
    | gap hB hP hk =>
      rename_i B f ob ops plan dn ks ks'
      simp only [] at H H0
      show GapF P ops (KX P Q ks') f B ob plan dn a w
      cases plan with
      | nil => exact H0.elim
      | cons i rest =>
        simp only [] at H H0
        cases ho : nth ops.toList i with
        | none => simp only [ho] at H0; exact H0.elim
        | some o =>
          simp only [ho] at H
          rw [nth_eq, Array.getElem?_toList] at ho
          by_cases hif : i = f
          · subst hif
            refine .inl ⟨rfl, fun o' d mk ho' hd hlay => ?_⟩
            rw [ho] at ho'; injection ho' with ho'; subst ho'
            exact gapF_sound hM ih hi hfs hk hP ho hpre ok hN H hd hlay
          · refine .inr ⟨hif, ?_⟩
            have hnf : isF (some f) i = false := by
              cases h : isF (some f) i with
              | false => rfl
              | true => have := isF_spec.1 h; injection this with this; exact absurd this.symm hif
            exact gapStep_sound hM ih hi hfs (fun dn => .gapS ops f B ob rest dn :: ks') (fun _ dn => .gap hB hP hk) (fun h => by rw [hnf] at h; cases h) (fun dn e a w he => by simp only [KX]; cases e <;> first | exact absurd rfl he | rfl) ho hpre ok hN H
    | cons k hk =>
      rename_i ks ks'
      cases k with
      | blk id =>
        simp only [] at H
        have := ih _ _ hi _ _ _ _ _ _ _ _ _ _ _ _ _ hfs hk hpre H a w ok hN
        simpa [KX, Exit.inBlock] using this
      | lp bd =>
        simp only [] at H H0
        cases hdd : lpEnv md.conc env with
        | none => simp only [hdd] at H0; exact H0.elim
        | some env1 =>
          simp only [hdd] at H
          have hle : ∀ t v, look env1 t = some v → look env t = some v := by
            unfold lpEnv at hdd
            split at hdd
            · exact fun t v hv => (dedup_look hdd t v hv).1
            · injection hdd with hdd; subst hdd; exact fun t v hv => hv
          have ok1 : OK b F' env1 hp vs a w := ⟨ok.defers, okEnv_le ok.env (fun t v hv => ⟨v, hle t v hv, rfl⟩), ok.heap, ok.nodup, ok.own, ok.ext, ok.vs⟩
          exact lp_round (ih _ _ hi _ _ _ _ _ _ _ _ (.c bd :: .lp bd :: ks') _ _ _ _ hfs (.cons _ (.cons _ hk)) hpre H a w ok1 hN)
      | inv I =>
        simp only [] at H0
        cases hfs with
        | nil => exact H0.2 a w ⟨okb, hN⟩
        | cons _ _ _ _ _ _ => exact H0.elim
      | ops all l =>
        cases l with
        | nil =>
          simp only [] at H
          exact ih _ _ hi _ _ _ _ _ _ _ _ _ _ _ _ _ hfs hk hpre H a w ok hN
        | cons o l =>
          show wpList P all (KX P Q ks') (o :: l) a w
          have hskip : Region.wanted o (yielded all a.tmps) = false → (∀ fr, Agree pre fr → sem P N0 (bodyPost P fn0 R) R base F (doSkip (run md fr n) N rs env hp vs sd nk (.ops all l :: ks) fs o)) →
              wpList P all (KX P Q ks') (o :: l) a w := by
            intro hw H
            refine wpList_skip hw ?_
            have H0 := H fr0 hc0
            unfold doSkip finSkip at H H0
            cases hd : o.dst with
            | none => simp only [hd] at H; exact ih _ _ hi _ _ _ _ _ _ _ (.ops all l :: ks) _ _ _ _ _ hfs (.cons _ hk) hpre H _ _ ok hN
            | some d =>
              simp only [hd] at H H0
              cases hb : Nat.blt d N with
              | false => simp only [hb] at H0; exact H0.elim
              | true =>
                simp only [hb] at H
                rw [Nat.blt_eq] at hb
                have e : undef = SV.und.den := by simp [SV.den]
                rw [e]
                exact ih _ _ hi _ _ _ _ _ _ _ (.ops all l :: ks) _ _ _ _ _ hfs (.cons _ hk) hpre H _ _ (ok_put ok (by omega)) (by rw [size_put]; exact hN)
          simp only [stepO] at H H0
          cases hgd : o.guard with
          | none =>
            simp only [hgd, doOp, evOp_eq] at H
            exact fin_sound hM ih hi hfs hk hpre ok hN (by simp [Region.wanted, hgd]) H
          | some g =>
            obtain ⟨j, pol⟩ := g
            simp only [hgd, stepG] at H H0
            cases hj : nth all.toList j with
            | none => simp only [hj] at H0; exact H0.elim
            | some oj =>
              simp only [hj] at H H0
              cases htj : oj.dst with
              | none => simp only [htj] at H0; exact H0.elim
              | some tj =>
                simp only [htj] at H H0
                have hwant : ∀ {p : Bool} {v : SV}, look env tj = some v → v.den = .bool p → Region.wanted o (yielded all a.tmps) = (p == pol) := by
                  intro p v hl hv
                  obtain ⟨h1, h2⟩ := ok.env _ _ hl
                  have := yielded_eq hj htj h1 (by rw [h2, hv])
                  simp only [Region.wanted, hgd, this]
                  cases p <;> cases pol <;> rfl
                cases hl : look env tj with
                | none => simp only [hl] at H0; exact H0.elim
                | some v =>
                  cases v <;> try (simp only [hl] at H0; exact H0.elim)
                  case tt =>
                    have hw := hwant hl rfl
                    simp only [hl, doOp, evOp_eq] at H
                    cases pol with
                    | true => exact fin_sound hM ih hi hfs hk hpre ok hN (by simpa using hw) H
                    | false => exact hskip (by simpa using hw) H
                  case ff =>
                    have hw := hwant hl rfl
                    simp only [hl, doOp, evOp_eq] at H
                    cases pol with
                    | false => exact fin_sound hM ih hi hfs hk hpre ok hN (by simpa using hw) H
                    | true => exact hskip (by simpa using hw) H
                  case und =>
                    simp only [hl] at H
                    obtain ⟨h1, h2⟩ := ok.env _ _ hl
                    exact hskip (wanted_undef hgd hj htj h1 h2) H
                  case bo p =>
                    have hw := hwant hl rfl
                    simp only [hl, doSym, evOp_eq] at H H0
                    refine gsound hM ih hi hfs hk hpre ok hN hw (fun H2 => ?_) H
                    have hsp : ∀ {b : Bool}, p = b → ∀ {x : SV}, x.den = .bool b → ∀ {e s'}, ungd tj b p env = some (e, s') → (∀ fr, Agree pre fr → sem P N0 (bodyPost P fn0 R) R base F (run md fr n N rs ((tj, x) :: e) hp vs s' nk (.ops all (o :: l) :: ks) fs)) →
                        wpList P all (KX P Q ks') (o :: l) a w := by
                      intro b hb x hx e s' hu H
                      have hall := run_sides _ _ _ _ _ _ _ _ _ _ (H fr0 hc0)
                      have hle := ungd_sound hb hu hall
                      refine ih _ _ hi _ _ _ _ _ _ _ (.ops all (o :: l) :: ks) _ _ _ _ _ hfs (.cons _ hk) hpre H a w ⟨ok.defers, ?_, ok.heap, ok.nodup, ok.own, ok.ext, ok.vs⟩ hN
                      refine okEnv_le ok.env (fun t v hv => ?_)
                      simp only [look_cons] at hv
                      split at hv
                      · rename_i hk
                        injection hv with hv; subst hv
                        have := Nat.eq_of_beq_eq_true hk; subst this
                        exact ⟨_, hl, by simp [SV.den, hx, hb]⟩
                      · exact hle t v hv
                    cases hu1 : ungd tj true p env with
                    | none => simp only [hu1] at H2; exact (H2 fr0 hc0).elim
                    | some q1 =>
                      obtain ⟨e1, s1⟩ := q1
                      simp only [hu1] at H2
                      cases hu2 : ungd tj false p env with
                      | none => simp only [hu2] at H2; exact (H2 fr0 hc0).elim
                      | some q2 =>
                        obtain ⟨e2, s2⟩ := q2
                        simp only [hu2] at H2
                        cases hp' : p with
                        | true => exact hsp hp' rfl hu1 (fun fr h2 => (H2 fr h2).2.1 hp')
                        | false => exact hsp hp' rfl hu2 (fun fr h2 => (H2 fr h2).2.2 hp')
                  case gd t' pol' p' x =>
                    cases x <;> try (simp only [hl] at H0; exact H0.elim)
                    rename_i q
                    simp only [hl, doSym2, evOp_eq] at H H0
                    cases hpe : gcond pol' p' pol q with
                    | none => simp only [hpe] at H0; exact H0.elim
                    | some pe =>
                      simp only [hpe] at H H0
                      obtain ⟨h1, h2⟩ := ok.env _ _ hl
                      have hw := wanted_nested hgd hj htj h1 h2 hpe
                      refine gsound hM ih hi hfs hk hpre ok hN hw (fun H2 => ?_) H
                      have hsp : ∀ {b : Bool}, p' = b → ∀ {e s'}, ungd t' b p' env = some (e, s') → (∀ fr, Agree pre fr → sem P N0 (bodyPost P fn0 R) R base F (run md fr n N rs e hp vs s' nk (.ops all (o :: l) :: ks) fs)) →
                          wpList P all (KX P Q ks') (o :: l) a w := by
                        intro b hb e s' hu H
                        have hall := run_sides _ _ _ _ _ _ _ _ _ _ (H fr0 hc0)
                        exact ih _ _ hi _ _ _ _ _ _ _ (.ops all (o :: l) :: ks) _ _ _ _ _ hfs (.cons _ hk) hpre H a w ⟨ok.defers, okEnv_le ok.env (ungd_sound hb hu hall), ok.heap, ok.nodup, ok.own, ok.ext, ok.vs⟩ hN
                      cases hu1 : ungd t' true p' env with
                      | none => simp only [hu1] at H2; exact (H2 fr0 hc0).elim
                      | some q1 =>
                        obtain ⟨e1, s1⟩ := q1
                        simp only [hu1] at H2
                        cases hu2 : ungd t' false p' env with
                        | none => simp only [hu2] at H2; exact (H2 fr0 hc0).elim
                        | some q2 =>
                          obtain ⟨e2, s2⟩ := q2
                          simp only [hu2] at H2
                          cases hp' : p' with
                          | true => exact hsp hp' hu1 (fun fr h2 => (H2 fr h2).2.1 hp')
                          | false => exact hsp hp' hu2 (fun fr h2 => (H2 fr h2).2.2 hp')
      | gapS ops f B ob plan dn => exact H0.elim
      | chk ops i dn =>
        simp only [stepChk] at H H0
        show ChkP P ops i dn a w ∧ KX P Q ks' .normal a w
        cases hm : nth (masks ops.toList []) i with
        | none => simp only [hm] at H0; exact H0.elim
        | some m =>
          simp only [hm] at H H0
          cases hr : recheck md env hp vs ops.toList m dn sd with
          | none =>
            simp only [hr] at H0
            split at H0 <;> exact H0.elim
          | some sd' =>
            simp only [hr] at H H0
            have hall := run_sides _ _ _ _ _ _ _ _ _ _ H0
            refine ⟨fun q hq o d m' ho hd hm' hb => ?_, ih _ _ hi _ _ _ _ _ _ _ _ _ _ _ _ _ hfs hk hpre H a w ok hN⟩
            rw [nth_eq, hm'] at hm
            injection hm with hm; subst hm
            exact recheck_sound hM ok hr hall q hq o d ho hd hb
      | gap ops f plan dn =>
        simp only [] at H H0
        show GapM P ops (KX P Q ks') f plan dn a w
        cases plan with
        | nil =>
          cases f with
          | some f => exact H0.elim
          | none =>
            simp only [] at H
            exact ih _ _ hi _ _ _ _ _ _ _ _ _ _ _ _ _ hfs hk hpre H a w ok hN
        | cons i rest =>
          simp only [] at H H0
          cases ho : nth ops.toList i with
          | none => simp only [ho] at H0; exact H0.elim
          | some o =>
            simp only [ho] at H H0
            rw [nth_eq, Array.getElem?_toList] at ho
            have hxx : ∀ (f' : Option Nat) (rest dn : List Nat) (e : Exit) (a : Act) (w : World), e ≠ .normal → KX P Q (.gap ops f' rest dn :: ks') e a w = KX P Q ks' e a w := by
              intro f' rest dn e a w he
              simp only [KX]; cases e <;> first | exact absurd rfl he | rfl
            cases f with
            | none => exact gapStep_sound hM ih hi hfs (fun dn => .gap ops none rest dn :: ks') (fun _ dn => .cons _ hk) (fun h => by cases h) (hxx none rest) ho hpre ok hN H
            | some f =>
              by_cases hif : i = f
              · subst hif
                exact .inl ⟨rfl, gapStep_sound hM ih hi hfs (fun dn => .gap ops none rest dn :: ks') (fun h => by rw [isF_spec.2 rfl] at h; cases h) (fun _ dn => .cons _ hk) (hxx none rest) ho hpre ok hN H⟩
              · have hnf : isF (some f) i = false := by
                  cases h : isF (some f) i with
                  | false => rfl
                  | true => have := isF_spec.1 h; injection this with this; exact absurd this.symm hif
                refine .inr ⟨hif, gapStep_sound hM ih hi hfs (fun dn => .gap ops (some f) rest dn :: ks') (fun _ dn => .cons _ hk) (fun h => by rw [hnf] at h; cases h) (hxx (some f) rest) ho hpre ok hN H, ?_⟩
                intro hnq of hof hwo
                have hcq := hnq o ho
                have hea : early md fr0 N env hp vs nk ops (i :: rest) (some f) = true := by
                  unfold stepGap at H0
                  simp only [hnf] at H0
                  cases hc : cls o with
                  | q => rw [hc] at hcq; cases hcq
                  | a =>
                    simp only [hc] at H0
                    cases he : early md fr0 N env hp vs nk ops (i :: rest) (some f) with
                    | true => rfl
                    | false => rw [he] at H0; exact H0.elim
                  | e =>
                    simp only [hc] at H0
                    cases he : early md fr0 N env hp vs nk ops (i :: rest) (some f) with
                    | true => rfl
                    | false => rw [he] at H0; exact H0.elim
                obtain ⟨d, mk, cs, E, g1, g2, g3, g4⟩ := early_sound hM ok hN hea hof hwo
                refine ⟨d, mk, _, g1, g2, g3, g4, ?_⟩
                obtain ⟨r1, r2, r3, r4⟩ := rebase hi ok (.cells (SV.dens cs).toArray E (0, 0))
                have hlow : ∀ B ob, Prot base b F' B ob → B < w.heap.size := fun B ob hp' => (Array.getElem?_eq_some_iff.1 (hp'.now ok).1).1
                have hfs2 := (hfs.low hlow).mono (Nat.le_refl _) (fun B ob _ hp' => r3 B ob hp')
                have hk2 := (hk.low hlow).mono (L' := w.heap.size) (by omega) (fun B ob _ hp' => r3 B ob hp')
                refine .inr ⟨hif, gapStep_sound hM ih r1 hfs2 (L := w.heap.size + 1) (fun dn => .gapS ops f w.heap.size (.cells (SV.dens cs).toArray E (0, 0)) rest dn :: ks') (fun _ dn => .gap (Nat.lt_succ_self _) r4 hk2) (fun h => by rw [hnf] at h; cases h) (fun dn e a w he => by simp only [KX]; cases e <;> first | exact absurd rfl he | rfl) ho hpre r2 hN H⟩
      | c code =>
        simp only [stepC] at H H0
        cases code with
        | skip => simp only [] at H; exact wp_skip (ih _ _ hi _ _ _ _ _ _ _ _ _ _ _ _ _ hfs hk hpre H a w ok hN)
        | label id => simp only [] at H; exact wp_label (ih _ _ hi _ _ _ _ _ _ _ _ _ _ _ _ _ hfs hk hpre H a w ok hN)
        | seq x y => simp only [] at H; exact wp_seq (ih _ _ hi _ _ _ _ _ _ _ _ _ _ _ _ _ hfs (.cons _ (.cons _ hk)) hpre H a w ok hN)
        | block id x => simp only [] at H; exact wp_block (ih _ _ hi _ _ _ _ _ _ _ _ _ _ _ _ _ hfs (.cons _ (.cons _ hk)) hpre H a w ok hN)
        | loop x =>
          simp only [doLoop] at H H0
          cases hu : md.unroll with
          | true =>
            simp only [hu] at H
            exact lp_start (ih _ _ hi _ _ _ _ _ _ _ _ _ _ _ _ _ hfs (.cons _ (.cons _ hk)) hpre H a w ok hN)
          | false =>
            simp only [hu] at H0
            cases hfs with
            | nil =>
              simp only [] at H0
              cases hfl : noFl ks with
              | false => rw [hfl] at H0; exact H0.elim
              | true =>
                rw [hfl] at H0
                have e := hk.noFl hfl
                subst e
                exact H0.2 a w ⟨okb, hN⟩
            | cons _ _ _ _ _ _ => exact H0.elim
        | exit id =>
          simp only [] at H H0
          cases hpo : popTo id ks with
          | none => simp only [hpo] at H0; exact H0.elim
          | some ks1 =>
            simp only [hpo] at H
            obtain ⟨ks1', hpo', hk1⟩ := hk.popTo hpo
            exact wp_exit (KX_exit hpo' (ih _ _ hi _ _ _ _ _ _ _ _ _ _ _ _ _ hfs hk1 hpre H a w ok hN))
        | ret =>
          simp only [] at H
          exact wp_ret (KX_ret (ret_sound hM ih hi hfs hpre ok hN (.inl rfl) H))
        | region id ops draw =>
          cases draw with
          | false => simp only [] at H; exact wp_region_list (ih _ _ hi _ _ _ _ _ _ _ _ (.ops ops ops.toList :: ks') _ _ _ _ hfs (.cons _ hk) hpre H a w ok hN)
          | true =>
            simp only [doDraw, doDrawF] at H H0
            cases hok : gapOk ops.toList (floatOf ops.toList (masks ops.toList []) (planOf ops.toList) []) (planOf ops.toList) with
            | false =>
              simp only [hok, leafD] at H0
              cases hfs with
              | nil =>
                simp only [] at H0
                cases hfl : noFl ks with
                | false => rw [hfl] at H0; exact H0.elim
                | true =>
                  rw [hfl] at H0
                  have e := hk.noFl hfl
                  subst e
                  exact H0.2 a w ⟨okb, hN⟩
              | cons _ _ _ _ _ _ => exact H0.elim
            | true =>
              simp only [hok] at H
              have hdr : Ext w [] { w with drawn := w.drawn + 1 } := ⟨rfl, rfl, rfl, Nat.le_refl _, fun _ _ _ => rfl⟩
              refine gap_region hM.mix hok (fun c a a' w hd h => ?_) (ih _ _ hi _ _ _ _ _ _ _ _ (.gap ops _ _ [] :: ks') _ _ _ _ hfs (.cons _ hk) hpre H a _ (ok_ro ok hdr) hN)
              rw [KX_panic] at h ⊢
              exact hfs.post c a a' w hd h
        | cond c x y =>
          simp only [doIf] at H H0
          cases hc : ev env none c with
          | none => simp only [hc] at H0; exact H0.elim
          | some v =>
            have e := ev_den ok (gOK_none c) hc
            cases v <;> try (simp only [hc] at H0; exact H0.elim)
            case tt => simp only [hc] at H; exact wp_cond_true (by rw [e]; rfl) (ih _ _ hi _ _ _ _ _ _ _ _ _ _ _ _ _ hfs (.cons _ hk) hpre H a w ok hN)
            case ff => simp only [hc] at H; exact wp_cond_false (by rw [e]; rfl) (ih _ _ hi _ _ _ _ _ _ _ _ _ _ _ _ _ hfs (.cons _ hk) hpre H a w ok hN)
            case bo p =>
              simp only [hc] at H
              refine wp_cond_split (t := p) (by rw [e]; rfl) (fun hp => ?_) (fun hp => ?_)
              · exact ih _ _ hi _ _ _ _ _ _ _ _ _ _ _ _ _ hfs (.cons _ hk) hpre (fun fr h2 => (H fr h2).2.1 hp) a w ok hN
              · exact ih _ _ hi _ _ _ _ _ _ _ _ _ _ _ _ _ hfs (.cons _ hk) hpre (fun fr h2 => (H fr h2).2.2 hp) a w ok hN
        | rangeFunc f p x y => exact H0.elim
        | scope x => exact H0.elim
        | goto l => exact H0.elim
        | refuse s => exact H0.elim
end
end Go.Vd
