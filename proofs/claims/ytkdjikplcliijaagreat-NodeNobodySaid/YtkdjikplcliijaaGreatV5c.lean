/-  Regions that draw their order: the theorem. -/
import Derived.Test.YtkdjikplcliijaaGreatV5b
namespace Go.Vd
section
variable {P : Program} {ops : Array Oper} {X : Exit → Act → World → Prop}

/-- how far one is with the operation that may come up ahead of its time -/
inductive GM where
  | z
  | n (f : Nat)
  | s (f B : Nat) (ob : Obj) (d : Nat) (mk : Nat → Value)
def GM.f : GM → Option Nat
  | .z => none
  | .n f => some f
  | .s f .. => some f
def GM.G (P : Program) (ops : Array Oper) (X : Exit → Act → World → Prop) : GM → List Nat → List Nat → Act → World → Prop
  | .z => GapZ P ops X
  | .n f => GapN P ops X f
  | .s f B ob _ _ => GapF P ops X f B ob

/-- what is fixed of a region -/
structure Stat (ops : Array Oper) : Prop where
  back : ∀ (i : Nat) (o : Oper), ops[i]? = some o → ∀ e ∈ o.after.toList, Region.binds .any e = true → e.on < i
  sel : ∀ (i : Nat) (o : Oper), ops[i]? = some o → ∀ cs b, o.op ≠ Op.select cs b
  ap : ∀ (j : Nat) (oj : Oper) (d : Nat), ops[j]? = some oj → oj.dst = some d → ∀ (i : Nat) (oi : Oper), ops[i]? = some oi → apartB d j i (looks ops.toList oi) oi = true

/-- the state in the plan's order, beside the true one -/
structure GInv (P : Program) (ops : Array Oper) (m : GM) (rest dn : List Nat) (as a : Act) (w : World) (listed : Array Bool) : Prop where
  size : listed.size = ops.size
  closed : ∀ (j : Nat) (o : Oper), ops[j]? = some o → listed.getD j false = true → ∀ e ∈ o.after.toList, Region.binds .any e = true → listed.getD e.on false = true
  plan : ∃ done ne, PlanP ops m.f rest done ne ∧ ∀ j, j ∈ done → j ∉ rest
  pre : ∀ (j : Nat) (o : Oper), ops[j]? = some o → j ∉ rest → ∀ e ∈ o.after.toList, Region.binds .any e = true → e.on ∉ rest
  dnq : ∀ q ∈ dn, q ∉ rest ∧ ∃ o d, ops[q]? = some o ∧ (cls o).isQ = true ∧ o.dst = some d ∧ d < as.tmps.size
  cover : ∀ (j : Nat) (o : Oper), ops[j]? = some o → j ∈ rest ∨ j ∈ dn ∨ ((cls o).isQ = false ∧ listed.getD j false = true)
  un : ∀ j ∈ rest, listed.getD j false = true → ∃ f B ob d mk, m = .s f B ob d mk ∧ j = f
  asz : a.tmps.size = as.tmps.size
  adf : a.defers = as.defers
  agree : ∀ t, (∀ q ∈ dn, ∀ o, ops[q]? = some o → listed.getD q false = false → o.dst ≠ some t) → (∀ f B ob d mk, m = .s f B ob d mk → t ≠ d) → a.tmps.getD t undef = as.tmps.getD t undef
  step : ∀ q ∈ dn, ∀ o d, ops[q]? = some o → o.dst = some d → listed.getD q false = false → StepX P ops o as w (as.tmps.getD d undef)
  fl : ∀ f B ob d mk, m = .s f B ob d mk → f ∈ rest ∧ listed.getD f false = true ∧ (∃ o, ops[f]? = some o ∧ o.dst = some d ∧ (cls o).isQ = false ∧ laysB P o as mk ob ∧ ∀ e ∈ o.after.toList, Region.binds .any e = true → e.on ∉ rest) ∧ d < as.tmps.size ∧ a.tmps.getD d undef = mk B

theorem planP_not_done {f : Option Nat} : ∀ {l done ne : List Nat}, PlanP ops f l done ne → ∀ j ∈ l, j ∉ done
  | [], _, _, _, j, h => by cases h
  | i :: l, done, ne, ⟨o, m, _, _, hd, _, _, _, hr⟩, j, hj => by
    simp only [List.mem_cons] at hj
    rcases hj with rfl | hj
    · exact hd
    · exact fun h => planP_not_done hr j hj (List.mem_cons_of_mem _ h)
theorem planP_nodup {f : Option Nat} {i : Nat} {l done ne : List Nat} (h : PlanP ops f (i :: l) done ne) : i ∉ l := by
  obtain ⟨o, m, _, _, _, _, _, _, hr⟩ := h
  exact fun hi => planP_not_done hr i hi (by simp)
theorem planP_later {f : Option Nat} : ∀ {l done ne : List Nat}, PlanP ops f l done ne → ∀ i ∈ ne, ∀ j ∈ l, f ≠ some j → ∃ m, (masks ops.toList [])[j]? = some m ∧ m.testBit i = true
  | [], _, _, _, _, _, j, h, _ => by cases h
  | k :: l, done, ne, ⟨o, m, _, hm, _, _, hb, _, hr⟩, i, hi, j, hj, hf => by
    simp only [List.mem_cons] at hj
    rcases hj with rfl | hj
    · exact ⟨m, hm, hb hf i hi⟩
    · refine planP_later hr i ?_ j hj hf
      split
      · exact hi
      · exact List.mem_cons_of_mem _ hi
theorem planP_none {f : Option Nat} : ∀ {l done ne : List Nat}, PlanP ops f l done ne → (∀ j ∈ l, f ≠ some j) → PlanP ops none l done ne
  | [], _, _, _, _ => trivial
  | k :: l, done, ne, ⟨o, m, ho, hm, h1, h2, hb, _, hr⟩, hf =>
    ⟨o, m, ho, hm, h1, h2, fun _ => hb (hf k (by simp)), (fun e => by cases e), planP_none hr (fun j hj => hf j (List.mem_cons_of_mem _ hj))⟩

theorem put_get {a : Act} {d t : Nat} {v : Value} (hd : d < a.tmps.size) : (a.put (some d) v).tmps.getD t undef = if t = d then v else a.tmps.getD t undef := by
  by_cases h : t = d
  · subst h; simp [Act.put, hd]
  · simp [Act.put, h, Array.getElem?_setIfInBounds_ne (fun e => h e.symm)]
theorem put_size (a : Act) (d : Option Tmp) (v : Value) : (a.put d v).tmps.size = a.tmps.size := by cases d <;> simp [Act.put]
theorem put_defers (a : Act) (d : Option Tmp) (v : Value) : (a.put d v).defers = a.defers := by cases d <;> simp [Act.put]
theorem isQ_of {p : PC} (h : p = .q) : p.isQ = true := by subst h; rfl

theorem wp_sim {o : Oper} {as a : Act} {w : World} {K' K : Act → World → Prop} (hX : ∀ c a a' w, a.defers = a'.defers → X (.panic c) a w → X (.panic c) a' w) (he : execOp a.eval o = execOp as.eval o) (hd : a.defers = as.defers)
    (hK : ∀ ds v w', K' ({ as with defers := ds }.put o.dst v) w' → K ({ a with defers := ds }.put o.dst v) w') (h : o.wp P as w K' X) : o.wp P a w K X := by
  have h0 : ∀ v w', K' (as.put o.dst v) w' → K (a.put o.dst v) w' := fun v w' h => by
    have := hK as.defers v w' h
    rw [show ({ a with defers := as.defers } : Act) = a by rw [← hd]] at this
    exact this
  unfold Oper.wp at *
  rw [he]
  generalize (execOp as.eval o).run P w = r at *
  cases r with
  | ok n w' =>
    cases n <;> simp only [Oper.upon] at h ⊢ <;>
      first
        | exact h0 _ _ h
        | exact Calls.mono h (fun e w'' he => by cases e <;> first | exact h0 _ _ he | exact hX _ _ _ _ hd.symm he | exact he)
        | exact Rows.mono h (fun _ _ he => h0 _ _ he)
        | (rw [hd]; exact hK _ _ _ h)
        | exact h
  | halt x w' => cases x <;> simp only [Oper.upon] at h ⊢ <;> first | exact hX _ _ _ _ hd.symm h | exact h

theorem count_lt {listed : Array Bool} {i k : Nat} (h2 : listed.getD i true = false) (hc : listed.toList.count false = k + 1) : (listed.setIfInBounds i true).toList.count false = k := by
  have h5 := (getD_tf h2).2
  rw [← Array.getElem?_toList] at h5
  have h6 := count_set h5
  have h7 : (listed.setIfInBounds i true).toList = listed.toList.set i true := by simp
  rw [h7]; omega

theorem closed_set {listed : Array Bool} {i : Nat} {o : Oper} (hsz : i < listed.size) (ho : ops[i]? = some o) (hw : ∀ e ∈ o.after.toList, Region.binds .any e = true → listed.getD e.on false = true)
    (hcl : ∀ (j : Nat) (o : Oper), ops[j]? = some o → listed.getD j false = true → ∀ e ∈ o.after.toList, Region.binds .any e = true → listed.getD e.on false = true) :
    ∀ (j : Nat) (o : Oper), ops[j]? = some o → (listed.setIfInBounds i true).getD j false = true → ∀ e ∈ o.after.toList, Region.binds .any e = true → (listed.setIfInBounds i true).getD e.on false = true := by
  intro j oj hj hl e he hb
  rw [getD_set' _ _ _ hsz] at hl ⊢
  split
  · rfl
  · split at hl
    · rename_i hji; subst hji
      rw [ho] at hj; injection hj with hj; subst hj
      exact hw e he hb
    · exact hcl j oj hj hl e he hb


theorem Stat.same (st : Stat ops) {j d : Nat} {o : Oper} (h : ops[j]? = some o) (hd : o.dst = some d) : d ∉ looks ops.toList o := apartB_same (st.ap j o d h hd j o h)
theorem Stat.dst (st : Stat ops) {i j d : Nat} {oi oj : Oper} (hne : i ≠ j) (hj : ops[j]? = some oj) (hd : oj.dst = some d) (hi : ops[i]? = some oi) : oi.dst ≠ some d := (apartB_ne hne (st.ap j oj d hj hd i oi hi)).1
theorem Stat.wait (st : Stat ops) {i j d : Nat} {oi oj : Oper} (hne : i ≠ j) (hj : ops[j]? = some oj) (hd : oj.dst = some d) (hi : ops[i]? = some oi) (hm : d ∈ looks ops.toList oi) : ∃ e ∈ oi.after.toList, Region.binds .any e = true ∧ e.on = j := (apartB_ne hne (st.ap j oj d hj hd i oi hi)).2 hm

/-- a value laid down by an operation that nothing done waits for -/
theorem StepX.put (st : Stat ops) {i q d dq : Nat} {o oq : Oper} {rest : List Nat} {as : Act} {w : World} {v x : Value} (hi : ops[i]? = some o) (hd : o.dst = some d) (hdl : d < as.tmps.size) (hq : ops[q]? = some oq) (hqd : oq.dst = some dq) (hne : q ≠ i)
    (hir : i ∈ rest) (hw : ∀ e ∈ oq.after.toList, Region.binds .any e = true → e.on ∉ rest) (h : StepX P ops oq as w x) : StepX P ops oq (as.put (some d) v) w x := by
  refine h.congr (st.sel q oq hq) (put_size _ _ _) (fun t ht => ?_)
  rw [put_get hdl, if_neg (fun e => ?_)]
  subst e
  obtain ⟨e, he, hb, hon⟩ := st.wait hne hi hd hq ht
  exact hw e he hb (hon ▸ hir)

def Norm (ops : Array Oper) (m : GM) (rest : List Nat) : Prop := ∀ i l, rest = i :: l → (∃ o, ops[i]? = some o ∧ (cls o).isQ = false) ∧ ∀ f B ob d mk, m = .s f B ob d mk → i ≠ f

/-- what only looks, and is next in the plan, is passed -/
theorem GInv.nextQ (st : Stat ops) {m : GM} {i : Nat} {l dn : List Nat} {as a : Act} {w : World} {listed : Array Bool} {o : Oper} {d : Nat} {v : Value} (inv : GInv P ops m (i :: l) dn as a w listed)
    (ho : ops[i]? = some o) (hc : (cls o).isQ = true) (hd : o.dst = some d) (hdl : d < as.tmps.size) (hs : StepX P ops o as w v) : GInv P ops m l (i :: dn) (as.put (some d) v) a w listed := by
  obtain ⟨done, ne, hp, hdj⟩ := inv.plan
  have hnl := planP_nodup hp
  have hp0 := hp
  obtain ⟨o', mm, ho', hm, hid, hwd, hb, hfa, hr⟩ := hp
  rw [ho] at ho'; injection ho' with ho'; subst ho'
  have hne : ∀ f B ob d mk, m = .s f B ob d mk → i ≠ f := by
    intro f B ob d' mk hm' e
    obtain ⟨_, _, ⟨of, h1, _, h3, _⟩, _⟩ := inv.fl f B ob d' mk hm'
    subst e
    rw [ho] at h1; injection h1 with h1; subst h1
    rw [hc] at h3; cases h3
  have hil : listed.getD i false = false := by
    cases h : listed.getD i false with
    | false => rfl
    | true => obtain ⟨f, B, ob, d', mk, h1, h2⟩ := inv.un i (by simp) h; exact absurd h2 (hne f B ob d' mk h1)
  have hsame := st.same ho hd
  refine ⟨inv.size, inv.closed, ⟨i :: done, ne, by simpa [hc] using hr, ?_⟩, ?_, ?_, ?_, ?_, by rw [inv.asz, put_size], by rw [inv.adf, put_defers], ?_, ?_, ?_⟩
  · intro j hj
    simp only [List.mem_cons] at hj
    rcases hj with rfl | hj
    · exact hnl
    · exact fun h => hdj j hj (List.mem_cons_of_mem _ h)
  · intro j oj hj hjl e he hbe
    by_cases hji : j = i
    · subst hji
      rw [ho] at hj; injection hj with hj; subst hj
      exact fun h => hdj _ (hwd e he hbe) (List.mem_cons_of_mem _ h)
    · exact fun h => inv.pre j oj hj (by simp [hji, hjl]) e he hbe (List.mem_cons_of_mem _ h)
  · intro q hq
    simp only [List.mem_cons] at hq
    rcases hq with rfl | hq
    · exact ⟨hnl, o, d, ho, hc, hd, by rw [put_size]; exact hdl⟩
    · obtain ⟨h1, o2, d2, h2, h3, h4, h5⟩ := inv.dnq q hq
      exact ⟨fun h => h1 (List.mem_cons_of_mem _ h), o2, d2, h2, h3, h4, by rw [put_size]; exact h5⟩
  · intro j oj hj
    rcases inv.cover j oj hj with h | h | h
    · simp only [List.mem_cons] at h
      rcases h with rfl | h
      · exact .inr (.inl (by simp))
      · exact .inl h
    · exact .inr (.inl (List.mem_cons_of_mem _ h))
    · exact .inr (.inr h)
  · exact fun j hj => inv.un j (List.mem_cons_of_mem _ hj)
  · intro t h1 h2
    rw [put_get hdl, if_neg (fun e => h1 i (by simp) o ho hil (by rw [e]; exact hd))]
    exact inv.agree t (fun q hq => h1 q (List.mem_cons_of_mem _ hq)) h2
  · intro q hq oq dq hoq hdq hql
    simp only [List.mem_cons] at hq
    by_cases hqi : q = i
    · subst hqi
      rw [ho] at hoq; injection hoq with hoq; subst hoq
      rw [hd] at hdq; injection hdq with hdq; subst hdq
      rw [put_get hdl, if_pos rfl]
      refine hs.congr (st.sel q o ho) (put_size _ _ _) (fun t ht => ?_)
      rw [put_get hdl, if_neg (fun (e : t = d) => by subst e; exact hsame ht)]
    · have hq' : q ∈ dn := by simpa [hqi] using hq
      rw [put_get hdl, if_neg (fun e => st.dst hqi ho hd hoq (by rw [hdq, e]))]
      exact StepX.put st ho hd hdl hoq hdq hqi (by simp) (inv.pre q oq hoq (inv.dnq q hq').1) (inv.step q hq' oq dq hoq hdq hql)
  · intro f B ob df mk hm'
    obtain ⟨h1, h2, ⟨of, h3, h4, h5, h6, h7⟩, h8, h9⟩ := inv.fl f B ob df mk hm'
    have hif := hne f B ob df mk hm'
    refine ⟨by simpa [Ne.symm hif] using h1, h2, ⟨of, h3, h4, h5, ?_, fun e he hbe h => h7 e he hbe (List.mem_cons_of_mem _ h)⟩, by rw [put_size]; exact h8, h9⟩
    refine h6.congr (ops := ops) (st.sel f of h3) (fun t ht => ?_)
    rw [put_get hdl, if_neg (fun e => ?_)]
    subst e
    obtain ⟨e, he, hbe, hon⟩ := st.wait (Ne.symm hif) ho hd h3 ht
    exact h7 e he hbe (by rw [hon]; simp)

/-- the operation that has come up ahead of its time is next in the plan -/
theorem GInv.nextF (st : Stat ops) {f B : Nat} {ob : Obj} {d : Nat} {mk : Nat → Value} {l dn : List Nat} {as a : Act} {w : World} {listed : Array Bool} (inv : GInv P ops (.s f B ob d mk) (f :: l) dn as a w listed) :
    GInv P ops .z l dn (as.put (some d) (mk B)) a w listed := by
  obtain ⟨done, ne, hp, hdj⟩ := inv.plan
  have hnl := planP_nodup hp
  obtain ⟨o', mm, ho, hm, hid, hwd, hb, hfa, hr⟩ := hp
  obtain ⟨h1, h2, ⟨of, h3, h4, h5, h6, h7⟩, h8, h9⟩ := inv.fl f B ob d mk rfl
  rw [ho] at h3; injection h3 with h3; subst h3
  refine ⟨inv.size, inv.closed, ⟨f :: done, f :: ne, ?_, ?_⟩, ?_, ?_, ?_, ?_, by rw [inv.asz, put_size], by rw [inv.adf, put_defers], ?_, ?_, by intro f B ob d mk h; cases h⟩
  · have hr : PlanP ops (some f) l (f :: done) (f :: ne) := by simpa [h5, GM.f] using hr
    exact planP_none hr (fun j hj e => by injection e with e; subst e; exact hnl hj)
  · intro j hj
    simp only [List.mem_cons] at hj
    rcases hj with rfl | hj
    · exact hnl
    · exact fun h => hdj j hj (List.mem_cons_of_mem _ h)
  · intro j oj hj hjl e he hbe
    by_cases hji : j = f
    · subst hji
      rw [ho] at hj; injection hj with hj; subst hj
      exact fun h => hdj _ (hwd e he hbe) (List.mem_cons_of_mem _ h)
    · exact fun h => inv.pre j oj hj (by simp [hji, hjl]) e he hbe (List.mem_cons_of_mem _ h)
  · intro q hq
    obtain ⟨g1, o2, d2, g2, g3, g4, g5⟩ := inv.dnq q hq
    exact ⟨fun h => g1 (List.mem_cons_of_mem _ h), o2, d2, g2, g3, g4, by rw [put_size]; exact g5⟩
  · intro j oj hj
    rcases inv.cover j oj hj with h | h | h
    · simp only [List.mem_cons] at h
      rcases h with rfl | h
      · rw [ho] at hj; injection hj with hj; subst hj
        exact .inr (.inr ⟨h5, h2⟩)
      · exact .inl h
    · exact .inr (.inl h)
    · exact .inr (.inr h)
  · intro j hj hl
    obtain ⟨f', B', ob', d', mk', g1, g2⟩ := inv.un j (List.mem_cons_of_mem _ hj) hl
    injection g1 with g1; subst g1; subst g2
    exact absurd hj hnl
  · intro t g1 _
    rw [put_get h8]
    split
    · rename_i e; rw [e]; exact h9
    · rename_i e
      exact inv.agree t g1 (fun f' B' ob' d' mk' h => by injection h with _ _ _ h _; rw [← h]; exact e)
  · intro q hq oq dq hoq hdq hql
    have hqf : q ≠ f := fun e => (inv.dnq q hq).1 (by rw [e]; simp)
    rw [put_get h8, if_neg (fun e => st.dst hqf ho h4 hoq (by rw [hdq, e]))]
    exact StepX.put st ho h4 h8 hoq hdq hqf (by simp) (inv.pre q oq hoq (inv.dnq q hq).1) (inv.step q hq oq dq hoq hdq hql)

theorem GInv.norm (st : Stat ops) : ∀ {rest dn : List Nat} {m : GM} {as a : Act} {w : World} {listed : Array Bool}, GInv P ops m rest dn as a w listed → m.G P ops X rest dn as w →
    ∃ m' rest' dn' as', GInv P ops m' rest' dn' as' a w listed ∧ m'.G P ops X rest' dn' as' w ∧ Norm ops m' rest'
  | [], dn, m, as, a, w, listed, inv, h => ⟨m, [], dn, as, inv, h, fun i l e => by cases e⟩
  | i :: l, dn, m, as, a, w, listed, inv, h => by
    obtain ⟨done, ne, hp, _⟩ := inv.plan
    obtain ⟨o, mm, ho, _, _, _, _, hfa, _⟩ := hp
    have hstep : (∀ f, m.f = some f → i ≠ f) → (cls o).isQ = true → ∀ K : List Nat → Act → World → Prop, GapStep P ops X i dn K as w → (∀ dn' as', GInv P ops m l dn' as' a w listed → K dn' as' w → ∃ m' rest' dn' as', GInv P ops m' rest' dn' as' a w listed ∧ m'.G P ops X rest' dn' as' w ∧ Norm ops m' rest') →
        ∃ m' rest' dn' as', GInv P ops m' rest' dn' as' a w listed ∧ m'.G P ops X rest' dn' as' w ∧ Norm ops m' rest' := by
      intro hif hc K hg hK
      obtain ⟨o', ho', hg⟩ := hg
      rw [ho] at ho'; injection ho' with ho'; subst ho'
      cases hcl : cls o with
      | q =>
        rw [hcl] at hg
        obtain ⟨d, v, h1, h2, h3, h4⟩ := hg
        exact hK _ _ (inv.nextQ st ho hc h1 h2 h3) h4
      | a => rw [hcl] at hc; cases hc
      | e => rw [hcl] at hc; cases hc
    cases hc : (cls o).isQ with
    | false =>
      by_cases hs : ∃ f B ob d mk, m = .s f B ob d mk ∧ i = f
      · obtain ⟨f, B, ob, d, mk, rfl, rfl⟩ := hs
        rcases h with ⟨_, h⟩ | ⟨h, _⟩
        · obtain ⟨h1, h2, ⟨of, h3, h4, h5, h6, h7⟩, h8, h9⟩ := inv.fl i B ob d mk rfl
          exact GInv.norm st (inv.nextF st) (m := .z) (h of d mk h3 h4 h6)
        · exact absurd rfl h
      · exact ⟨m, i :: l, dn, as, inv, h, fun i' l' e => by
          injection e with e1 e2; subst e1; subst e2
          exact ⟨⟨o, ho, hc⟩, fun f B ob d mk hm e => hs ⟨f, B, ob, d, mk, hm, e⟩⟩⟩
    | true =>
      have hif : ∀ f, m.f = some f → i ≠ f := by
        intro f hf e
        subst e
        have := hfa hf
        cases hcl : cls o <;> rw [hcl] at this hc <;> first | (simp [PC.isQ] at hc; done) | (simp [PC.isA] at this; done)
      cases m with
      | z => exact hstep hif hc _ h (fun dn' as' inv' hk => GInv.norm st inv' (m := .z) hk)
      | n f =>
        rcases h with ⟨e, _⟩ | ⟨_, h, _⟩
        · exact absurd e (hif f rfl)
        · exact hstep hif hc _ h (fun dn' as' inv' hk => GInv.norm st inv' (m := .n f) hk)
      | s f B ob d mk =>
        rcases h with ⟨e, _⟩ | ⟨_, h⟩
        · exact absurd e (hif f rfl)
        · exact hstep hif hc _ h (fun dn' as' inv' hk => GInv.norm st inv' (m := .s f B ob d mk) hk)

theorem gap_any (st : Stat ops) (hX : ∀ c a a' w, a.defers = a'.defers → X (.panic c) a w → X (.panic c) a' w) : ∀ (k : Nat) (m : GM) (rest dn : List Nat) (as a : Act) (w : World) (listed : Array Bool),
    GInv P ops m rest dn as a w listed → m.G P ops X rest dn as w → listed.toList.count false = k → wpAny P .any ops X k listed a w := by
  intro k
  induction k with
  | zero =>
    intro m rest dn as a w listed inv h hcount
    obtain ⟨m, rest, dn, as, inv, h, hn⟩ := GInv.norm st inv h
    have hall : ∀ i, i < ops.size → listed.getD i false = true := by
      intro i hi
      cases hl : listed.getD i false with
      | true => rfl
      | false =>
        have h2 := (getD_tf (getD_ft (by rw [inv.size]; exact hi) hl)).2
        rw [← Array.getElem?_toList] at h2
        have := count_pos (n := 0) h2
        omega
    have hrest : rest = [] := by
      cases rest with
      | nil => rfl
      | cons i l =>
        obtain ⟨⟨o, ho, hc⟩, h2⟩ := hn i l rfl
        have hi : i < ops.size := (Array.getElem?_eq_some_iff.1 ho).1
        obtain ⟨f, B, ob, d, mk, h3, h4⟩ := inv.un i (by simp) (hall i hi)
        exact absurd h4 (h2 f B ob d mk h3)
    subst hrest
    cases m with
    | n f => exact h.elim
    | s f B ob d mk => exact h.elim
    | z =>
      have ha : a = as := act_ext inv.asz (fun t => inv.agree t (fun q hq o ho hl => by
        rw [hall q (Array.getElem?_eq_some_iff.1 ho).1] at hl; cases hl) (fun _ _ _ _ _ h => by cases h)) inv.adf
      subst ha
      refine ⟨?_, h⟩
      cases hr : Region.ready .any ops listed with
      | nil => rfl
      | cons i l =>
        have hi : i ∈ Region.ready .any ops listed := by rw [hr]; simp
        obtain ⟨h1, h2, _⟩ := ready_spec hi
        have := hall i h1
        rw [(getD_tf h2).1] at this; cases this
  | succ k ih =>
    intro m rest dn as a w listed inv h hcount
    obtain ⟨m, rest, dn, as, inv, h, hn⟩ := GInv.norm st inv h
    refine ⟨fun hr => ?_, fun i hi => ?_⟩
    · exfalso
      rcases least_unlisted (listed := listed) ops.size with hall | ⟨j, hj, hju, hjl⟩
      · have hrep : listed.toList = List.replicate ops.size true := by
          apply List.ext_getElem?
          intro i
          rw [Array.getElem?_toList, List.getElem?_replicate]
          split
          · rename_i hi
            have hi' : i < listed.size := by rw [inv.size]; exact hi
            have := hall i hi
            rw [Array.getD_eq_getD_getElem?, Array.getElem?_eq_getElem hi'] at this
            rw [Array.getElem?_eq_getElem hi']; simpa using this
          · rename_i hi
            rw [Array.getElem?_eq_none (by rw [inv.size]; omega)]
        rw [hrep, List.count_replicate] at hcount
        simp at hcount
      · have : j ∈ Region.ready .any ops listed := mem_ready.2 ⟨getD_ft (by rw [inv.size]; exact hj) hju, ops[j], Array.getElem?_eq_getElem hj, fun e he hb => hjl _ (st.back j ops[j] (Array.getElem?_eq_getElem hj) e (by simpa using he) hb)⟩
        rw [hr] at this; cases this
    · obtain ⟨hil, h2, o, ho, hw⟩ := ready_spec hi
      have hils : i < listed.size := by rw [inv.size]; exact hil
      have hun := (getD_tf h2).1
      have hcnt := count_lt h2 hcount
      have hcl' := closed_set hils ho hw inv.closed
      have hget := fun j => getD_set' listed i j hils
      -- what operation i looks at is as in the plan's state
      have hlook : (∀ f B ob d mk, m = .s f B ob d mk → ∀ e ∈ o.after.toList, Region.binds .any e = true → e.on ≠ f) → (∀ f B ob d mk, m = .s f B ob d mk → i ≠ f) → ∀ t ∈ looks ops.toList o, a.tmps.getD t undef = as.tmps.getD t undef := by
        intro hs1 hs2 t ht
        refine inv.agree t (fun q hq oq hoq hql hqt => ?_) (fun f B ob d mk hm e => ?_)
        · by_cases hqi : i = q
          · subst hqi
            rw [ho] at hoq; injection hoq with hoq; subst hoq
            exact st.same ho hqt ht
          · obtain ⟨e, he, hb, hon⟩ := st.wait hqi hoq hqt ho ht
            have := hw e he hb
            rw [hon, hql] at this; cases this
        · obtain ⟨g1, g2, ⟨of, g3, g4, g5, g6, g7⟩, _⟩ := inv.fl f B ob d mk hm
          subst e
          obtain ⟨e, he, hb, hon⟩ := st.wait (hs2 f B ob t mk hm) g3 g4 ho ht
          exact hs1 f B ob t mk hm e he hb hon
      rcases inv.cover i o ho with hir | hid | ⟨_, hl⟩
      · -- it is not done in the plan
        cases rest with
        | nil => cases hir
        | cons hd l =>
          obtain ⟨⟨oh, hoh, hch⟩, hns⟩ := hn hd l rfl
          obtain ⟨done, ne, hp, hdj⟩ := inv.plan
          have hnl := planP_nodup hp
          have hp0 := hp
          obtain ⟨o', mm, ho', hm, hid, hwd, hbt, hfa, hr⟩ := hp
          rw [hoh] at ho'; injection ho' with ho'; subst ho'
          have hhd : listed.getD hd false = false := by
            cases hl : listed.getD hd false with
            | false => rfl
            | true => obtain ⟨f, B, ob, d, mk, g1, g2⟩ := inv.un hd (by simp) hl; exact absurd g2 (hns f B ob d mk g1)
          by_cases hih : i = hd
          · -- the next one
            subst hih
            rw [ho] at hoh; injection hoh with hoh; subst hoh
            have hs1 : ∀ f B ob d mk, m = .s f B ob d mk → ∀ e ∈ o.after.toList, Region.binds .any e = true → e.on ≠ f := by
              intro f B ob d mk hms e he hb hon
              exact hdj _ (hwd e he hb) (by rw [hon]; exact (inv.fl f B ob d mk hms).1)
            have hlk := hlook hs1 hns
            have hex := looks_exec (st.sel i o ho) hlk
            have hwt := looks_wanted inv.asz hlk
            -- the plan's state behind it
            have next : ∀ (m' : GM), (m' = m ∧ m.f ≠ some i ∨ m' = .z ∧ ∃ f, m = .n f ∧ f = i) → ∀ (ds : List Deferred) (v : Value) (w' : World),
                (∀ q ∈ dn, ∀ oq dq, ops[q]? = some oq → oq.dst = some dq → (listed.setIfInBounds i true).getD q false = false → StepX P ops oq ({ as with defers := ds }.put o.dst v) w' (({ as with defers := ds }.put o.dst v).tmps.getD dq undef)) →
                GInv P ops m' l dn ({ as with defers := ds }.put o.dst v) ({ a with defers := ds }.put o.dst v) w' (listed.setIfInBounds i true) := by
              intro m' hm' ds v w' hstep
              have hputs : ∀ t, ({ a with defers := ds }.put o.dst v).tmps.getD t undef = (if o.dst = some t ∧ t < as.tmps.size then v else a.tmps.getD t undef) ∧ ({ as with defers := ds }.put o.dst v).tmps.getD t undef = (if o.dst = some t ∧ t < as.tmps.size then v else as.tmps.getD t undef) := by
                intro t
                cases hd : o.dst with
                | none => simp [Act.put]
                | some d =>
                  by_cases hdt : d = t
                  · subst hdt
                    by_cases hlt : d < as.tmps.size
                    · simp [Act.put, hlt, inv.asz]
                    · simp [Act.put, hlt, inv.asz]
                  · simp [Act.put, hdt, Array.getElem?_setIfInBounds_ne hdt]
              refine ⟨by simpa using inv.size, hcl', ⟨i :: done, i :: ne, ?_, ?_⟩, ?_, ?_, ?_, ?_, by rw [put_size, put_size]; exact inv.asz, by rw [put_defers, put_defers], ?_, hstep, ?_⟩
              · have hr : PlanP ops m.f l (i :: done) (i :: ne) := by simpa [hch] using hr
                rcases hm' with ⟨rfl, _⟩ | ⟨rfl, f, rfl, rfl⟩
                · exact hr
                · exact planP_none hr (fun j hj e => by injection e with e; subst e; exact hnl hj)
              · intro j hj
                simp only [List.mem_cons] at hj
                rcases hj with rfl | hj
                · exact hnl
                · exact fun h => hdj j hj (List.mem_cons_of_mem _ h)
              · intro j oj hj hjl e he hbe
                by_cases hji : j = i
                · subst hji
                  rw [ho] at hj; injection hj with hj; subst hj
                  exact fun h => hdj _ (hwd e he hbe) (List.mem_cons_of_mem _ h)
                · exact fun h => inv.pre j oj hj (by simp [hji, hjl]) e he hbe (List.mem_cons_of_mem _ h)
              · intro q hq
                obtain ⟨g1, o2, d2, g2, g3, g4, g5⟩ := inv.dnq q hq
                exact ⟨fun h => g1 (List.mem_cons_of_mem _ h), o2, d2, g2, g3, g4, by rw [put_size]; exact g5⟩
              · intro j oj hj
                rw [hget]
                rcases inv.cover j oj hj with h | h | h
                · simp only [List.mem_cons] at h
                  rcases h with rfl | h
                  · rw [ho] at hj; injection hj with hj; subst hj
                    exact .inr (.inr ⟨hch, by simp⟩)
                  · exact .inl h
                · exact .inr (.inl h)
                · exact .inr (.inr ⟨h.1, by split; rfl; exact h.2⟩)
              · intro j hj hl
                rw [hget, if_neg (fun e => by subst e; exact hnl hj)] at hl
                obtain ⟨f, B, ob, d, mk, g1, g2⟩ := inv.un j (List.mem_cons_of_mem _ hj) hl
                rcases hm' with ⟨rfl, _⟩ | ⟨rfl, f', hmn, _⟩
                · exact ⟨f, B, ob, d, mk, g1, g2⟩
                · rw [hmn] at g1; cases g1
              · intro t g1 g2
                rw [(hputs t).1, (hputs t).2]
                split
                · rfl
                · refine inv.agree t (fun q hq oq hoq hql => g1 q hq oq hoq ?_) (fun f B ob d mk hms => ?_)
                  · rw [hget, if_neg (fun e => (inv.dnq q hq).1 (by rw [e]; simp))]; exact hql
                  · rcases hm' with ⟨rfl, _⟩ | ⟨rfl, f', hmn, _⟩
                    · exact g2 f B ob d mk hms
                    · rw [hmn] at hms; cases hms
              · intro f B ob d mk hms
                have hms' : m = .s f B ob d mk := by
                  rcases hm' with ⟨rfl, _⟩ | ⟨rfl, _⟩
                  · exact hms
                  · cases hms
                obtain ⟨g1, g2, ⟨of, g3, g4, g5, g6, g7⟩, g8, g9⟩ := inv.fl f B ob d mk hms'
                have hif := hns f B ob d mk hms'
                refine ⟨by simpa [Ne.symm hif] using g1, by rw [hget]; split; rfl; exact g2, ⟨of, g3, g4, g5, ?_, fun e he hbe h => g7 e he hbe (List.mem_cons_of_mem _ h)⟩, by rw [put_size]; exact g8, ?_⟩
                · refine g6.congr (ops := ops) (st.sel f of g3) (fun t ht => ?_)
                  have hno : ¬ (o.dst = some t ∧ t < as.tmps.size) := fun hh => by
                    obtain ⟨e, he, hbe, hon⟩ := st.wait (Ne.symm hif) ho hh.1 g3 ht
                    exact g7 e he hbe (by simp [hon])
                  rw [(hputs t).2, if_neg hno]
                · rw [(hputs d).1, if_neg (fun ⟨e, _⟩ => st.dst (Ne.symm hif) ho e g3 g4)]
                  exact g9
            -- the step that the plan takes
            have hG : ∃ m', (m' = m ∧ m.f ≠ some i ∨ m' = .z ∧ ∃ f, m = .n f ∧ f = i) ∧ GapStep P ops X i dn (fun dn a w => m'.G P ops X l dn a w) as w := by
              cases m with
              | z => exact ⟨.z, .inl ⟨rfl, by simp [GM.f]⟩, h⟩
              | n f =>
                rcases h with ⟨e, h⟩ | ⟨e, h, _⟩
                · exact ⟨.z, .inr ⟨rfl, f, rfl, e.symm⟩, h⟩
                · exact ⟨.n f, .inl ⟨rfl, by simp [GM.f]; exact fun e' => e e'.symm⟩, h⟩
              | s f B ob d mk =>
                rcases h with ⟨e, h⟩ | ⟨e, h⟩
                · exact absurd e (hns f B ob d mk rfl)
                · exact ⟨.s f B ob d mk, .inl ⟨rfl, by simp [GM.f]; exact fun e' => e e'.symm⟩, h⟩
            obtain ⟨m', hm', o', ho', hG⟩ := hG
            rw [ho] at ho'; injection ho' with ho'; subst ho'
            cases hcl : cls o with
            | q => rw [hcl] at hch; cases hch
            | a =>
              rw [hcl] at hG
              obtain ⟨d, mk, ob, hd, hdl, hlay, hK⟩ := hG
              have hlay' : laysB P o a mk ob := hlay.congr (st.sel i o ho) hlk
              have hguard : Region.wanted o (yielded ops a.tmps) = true := by
                unfold Region.wanted
                cases hg : o.guard with
                | none => rfl
                | some g => exact absurd hcl (by unfold cls; rw [hg]; cases o.op <;> simp [opPC]; split <;> simp)
              unfold Go.wpOp
              simp only [ho, hguard, if_true]
              refine .inl ?_
              unfold Oper.wp
              rw [hlay' w, Oper.upon_value]
              have hinv := next m' hm' as.defers (mk w.heap.size) { w with heap := w.heap.push ob } (fun q hq oq dq hoq hdq hql => ?_)
              · rw [show ({ a with defers := as.defers } : Act) = a by rw [← inv.adf]] at hinv
                refine ih m' l dn _ _ _ _ hinv ?_ hcnt
                rw [hd]; exact hK
              · have hqi : q ≠ i := fun e => (inv.dnq q hq).1 (by rw [e]; simp)
                rw [hget, if_neg hqi] at hql
                rw [hd]
                show StepX P ops oq (as.put (some d) (mk w.heap.size)) _ ((as.put (some d) (mk w.heap.size)).tmps.getD dq undef)
                rw [put_get hdl, if_neg (fun e => st.dst hqi ho hd hoq (by rw [hdq, e]))]
                exact (StepX.put st ho hd hdl hoq hdq hqi (rest := i :: l) (by simp) (inv.pre q oq hoq (inv.dnq q hq).1) (inv.step q hq oq dq hoq hdq hql)).ext (Ext.push _ _)
            | e =>
              rw [hcl] at hG
              have key : ∀ (ds : List Deferred) (v : Value) (w' : World), ChkP P ops i dn ({ as with defers := ds }.put o.dst v) w' ∧ m'.G P ops X l dn ({ as with defers := ds }.put o.dst v) w' →
                  wpAny P .any ops X k (listed.setIfInBounds i true) ({ a with defers := ds }.put o.dst v) w' := by
                intro ds v w' ⟨hchk, hK⟩
                refine ih m' l dn _ _ _ _ (next m' hm' ds v w' (fun q hq oq dq hoq hdq hql => ?_)) hK hcnt
                refine hchk q hq oq dq mm hoq hdq hm ?_
                cases hbit : mm.testBit q with
                | false => rfl
                | true =>
                  exfalso
                  have hS : Deep ops.toList (fun j => (listed.setIfInBounds i true).getD j false = true) := fun j oj hj hSj e he hb => hcl' j oj (by rw [Array.getElem?_toList] at hj; exact hj) hSj e he hb
                  have hg := masks_spec hS (l := ops.toList) (acc := []) (by simp) (fun i x o h => by simp at h)
                  have this : (listed.setIfInBounds i true).getD q false = true := hg i mm o hm (by rw [Array.getElem?_toList]; exact ho) (fun e he hb => by
                    show (listed.setIfInBounds i true).getD e.on false = true
                    rw [hget]; split
                    · rfl
                    · exact hw e he hb) q hbit
                  rw [this] at hql; cases hql
              unfold Go.wpOp at hG ⊢
              simp only [ho] at hG ⊢
              rw [hwt]
              split
              · rename_i hwa
                rw [if_pos hwa] at hG
                rcases hG with hG | ⟨hG1, hG2⟩
                · exact .inl (wp_sim hX hex inv.adf key hG)
                · refine .inr ⟨?_, hG2⟩
                  unfold Oper.asks at *
                  rw [hex]; exact hG1
              · rename_i hwa
                rw [if_neg hwa] at hG
                have := key as.defers undef w hG
                rw [show ({ a with defers := as.defers } : Act) = a by rw [← inv.adf]] at this
                exact this
          · -- ahead of its time
            have hil' : i ∈ l := by simpa [hih] using hir
            have hff : m.f = some i := by
              cases hf : decide (m.f = some i) with
              | true => exact of_decide_eq_true hf
              | false =>
                exfalso
                have hf := of_decide_eq_false hf
                have hr : PlanP ops m.f l (hd :: done) (hd :: ne) := by simpa [hch] using hr
                obtain ⟨mi, g1, g2⟩ := planP_later hr hd (by simp) i hil' hf
                have hS : Deep ops.toList (fun j => listed.getD j false = true) := fun j oj hj hSj e he hb => inv.closed j oj (by rw [Array.getElem?_toList] at hj; exact hj) hSj e he hb
                have hg := masks_spec hS (l := ops.toList) (acc := []) (by simp) (fun i x o h => by simp at h)
                have this : listed.getD hd false = true := hg i mi o g1 (by rw [Array.getElem?_toList]; exact ho) hw hd g2
                rw [hhd] at this; cases this
            cases m with
            | z => cases hff
            | s f B ob d mk =>
              injection hff with hff; subst hff
              have := (inv.fl f B ob d mk rfl).2.1
              rw [hun] at this; cases this
            | n f =>
              injection hff with hff; subst hff
              rcases h with ⟨e, _⟩ | ⟨_, _, hearly⟩
              · exact absurd e.symm hih
              have hwo : ∀ e ∈ o.after.toList, Region.binds .any e = true → e.on ∉ hd :: l := by
                intro e he hb hin
                obtain ⟨f', B, ob, d, mk, g1, _⟩ := inv.un _ hin (hw e he hb)
                cases g1
              obtain ⟨d, mk, ob, hd', hdl, hca, hlay, hF⟩ := hearly (fun oh' hoh' => by rw [hoh] at hoh'; injection hoh' with hoh'; subst hoh'; exact hch) o ho (waitsOut_iff.2 hwo)
              have hlk := hlook (by intro f' B ob d mk h; cases h) (by intro f' B ob d mk h; cases h)
              have hlay' : laysB P o a mk ob := hlay.congr (st.sel f o ho) hlk
              have hclA : cls o = .a := by cases hcl : cls o <;> rw [hcl] at hca <;> first | rfl | (simp [PC.isA] at hca; done)
              have hguard : Region.wanted o (yielded ops a.tmps) = true := by
                unfold Region.wanted
                cases hg : o.guard with
                | none => rfl
                | some g => exact absurd hclA (by unfold cls; rw [hg]; cases o.op <;> simp [opPC]; split <;> simp)
              unfold Go.wpOp
              simp only [ho, hguard, if_true]
              refine .inl ?_
              unfold Oper.wp
              rw [hlay' w, Oper.upon_value, hd']
              have hdla : d < a.tmps.size := by rw [inv.asz]; exact hdl
              refine ih (.s f w.heap.size ob d mk) (hd :: l) dn as _ _ _ ?_ hF hcnt
              refine ⟨by simpa using inv.size, hcl', ⟨done, ne, hp0, hdj⟩, inv.pre, inv.dnq, ?_, ?_, by rw [put_size]; exact inv.asz, by rw [put_defers]; exact inv.adf, ?_, ?_, ?_⟩
              · intro j oj hj
                rw [hget]
                rcases inv.cover j oj hj with h | h | h
                · exact .inl h
                · exact .inr (.inl h)
                · exact .inr (.inr ⟨h.1, by split; rfl; exact h.2⟩)
              · intro j hj hl
                rw [hget] at hl
                split at hl
                · rename_i hji; exact ⟨f, _, ob, d, mk, rfl, hji⟩
                · obtain ⟨f', B, ob', d', mk', g1, _⟩ := inv.un j hj hl
                  cases g1
              · intro t g1 g2
                rw [put_get hdla, if_neg (g2 f _ ob d mk rfl)]
                refine inv.agree t (fun q hq oq hoq hql => g1 q hq oq hoq ?_) (by intro f' B ob d mk h; cases h)
                rw [hget, if_neg (fun e => (inv.dnq q hq).1 (by rw [e]; exact hir))]; exact hql
              · intro q hq oq dq hoq hdq hql
                rw [hget, if_neg (fun e => (inv.dnq q hq).1 (by rw [e]; exact hir))] at hql
                exact (inv.step q hq oq dq hoq hdq hql).ext (Ext.push _ _)
              · intro f' B ob' d' mk' hms
                injection hms with e1 e2 e3 e4 e5
                subst e1; subst e2; subst e3; subst e4; subst e5
                exact ⟨hir, by rw [hget, if_pos rfl], ⟨o, ho, hd', by rw [hclA]; rfl, hlay, hwo⟩, hdl, by rw [put_get hdla, if_pos rfl]⟩
      · -- it only looks, and is done in the plan
        obtain ⟨hnr, o', d, ho', hcq, hd, hdl⟩ := inv.dnq i hid
        rw [ho] at ho'; injection ho' with ho'; subst ho'
        have hs1 : ∀ f B ob d mk, m = .s f B ob d mk → ∀ e ∈ o.after.toList, Region.binds .any e = true → e.on ≠ f := by
          intro f B ob d mk hms e he hb hon
          exact inv.pre i o ho hnr e he hb (by rw [hon]; exact (inv.fl f B ob d mk hms).1)
        have hs2 : ∀ f B ob d mk, m = .s f B ob d mk → i ≠ f := fun f B ob d mk hms e => hnr (by rw [e]; exact (inv.fl f B ob d mk hms).1)
        have hlk := hlook hs1 hs2
        have hdla : d < a.tmps.size := by rw [inv.asz]; exact hdl
        have hnow : StepNow P ops o a w (as.tmps.getD d undef) := (inv.step i hid o d ho hd hun).congr (st.sel i o ho) inv.asz hlk w (Ext.rfl' w)
        have next : wpAny P .any ops X k (listed.setIfInBounds i true) (a.put (some d) (as.tmps.getD d undef)) w := by
          refine ih m rest dn as _ w _ ⟨by simpa using inv.size, hcl', inv.plan, inv.pre, inv.dnq, ?_, ?_, by rw [put_size]; exact inv.asz, by rw [put_defers]; exact inv.adf, ?_, ?_, ?_⟩ h hcnt
          · intro j oj hj
            rw [hget]
            rcases inv.cover j oj hj with h | h | h
            · exact .inl h
            · exact .inr (.inl h)
            · exact .inr (.inr ⟨h.1, by split; rfl; exact h.2⟩)
          · intro j hj hl
            rw [hget, if_neg (fun e => hnr (by rw [← e]; exact hj))] at hl
            exact inv.un j hj hl
          · intro t g1 g2
            by_cases e : t = d
            · subst e; rw [put_get hdla, if_pos rfl]
            · rw [put_get hdla, if_neg e]
              refine inv.agree t (fun q hq oq hoq hql hqt => ?_) g2
              by_cases hqi : q = i
              · subst hqi
                rw [ho] at hoq; injection hoq with hoq; subst hoq
                rw [hd] at hqt; injection hqt with hqt
                exact e hqt.symm
              · exact g1 q hq oq hoq (by rw [hget, if_neg hqi]; exact hql) hqt
          · intro q hq oq dq hoq hdq hql
            rw [hget] at hql
            split at hql
            · cases hql
            · exact inv.step q hq oq dq hoq hdq hql
          · intro f B ob df mk hms
            obtain ⟨g1, g2, ⟨of, g3, g4, g5, g6, g7⟩, g8, g9⟩ := inv.fl f B ob df mk hms
            refine ⟨g1, by rw [hget]; split; rfl; exact g2, ⟨of, g3, g4, g5, g6, g7⟩, g8, ?_⟩
            rw [put_get hdla, if_neg (fun e => st.dst (hs2 f B ob df mk hms) g3 g4 ho (by rw [hd, e]))]
            exact g9
        unfold Go.wpOp
        simp only [ho]
        rcases hnow with ⟨hw1, hr1⟩ | ⟨hw1, hv⟩
        · rw [if_pos hw1]
          refine .inl ?_
          unfold Oper.wp
          rw [hr1, Oper.upon_value, hd]
          exact next
        · rw [if_neg (by simp [hw1]), hd, ← hv]
          exact next
      · rw [hl] at hun; cases hun

def GM.of : Option Nat → GM
  | none => .z
  | some f => .n f
theorem gap_region {id : Nat} {a : Act} {w : World} {f : Option Nat} {plan : List Nat} (hmix : P.follows .mixedOrders = true) (hok : gapOk ops.toList f plan = true)
    (hX : ∀ c a a' w, a.defers = a'.defers → X (.panic c) a w → X (.panic c) a' w) (h : GapM P ops X f plan [] a { w with drawn := w.drawn + 1 }) : (Code.region id ops true).wp P X a w := by
  unfold gapOk at hok
  split at hok <;> try (cases hok; done)
  rename_i hback
  split at hok <;> try (cases hok; done)
  rename_i hplan
  split at hok <;> try (cases hok; done)
  rename_i hcov
  split at hok <;> try (cases hok; done)
  rename_i hsel
  have st : Stat ops := by
    refine ⟨fun i o hi e he hb => ?_, fun i o hi => selB_spec hsel i o (by rw [Array.getElem?_toList]; exact hi), fun j oj d hj hd i oi hi => ?_⟩
    · have := backB_spec hback i o (by rw [Array.getElem?_toList]; exact hi) e he hb; omega
    · have := apartAll_spec hok j oj d (by rw [Array.getElem?_toList]; exact hj) hd i oi (by rw [Array.getElem?_toList]; exact hi)
      simpa using this
  have hin : ∀ (j : Nat) (o : Oper), ops[j]? = some o → j ∈ plan := fun j o hj => coverB_spec hcov j (by have := (Array.getElem?_eq_some_iff.1 hj).1; simpa using this)
  have hfalse : ∀ j, (Array.replicate ops.size false).getD j false = false := fun j => by
    rw [Array.getD_eq_getD_getElem?, Array.getElem?_replicate]; split <;> rfl
  refine wp_region_any hmix (gap_any st hX _ (GM.of f) plan [] a _ _ _ ?_ ?_ ?_)
  · refine ⟨by simp, ?_, ⟨[], [], ?_, by simp⟩, ?_, by simp, fun j o hj => .inl (hin j o hj), ?_, rfl, rfl, fun t _ _ => rfl, by simp, ?_⟩
    · intro j o _ h; rw [hfalse] at h; cases h
    · have := planB_spec hplan
      cases f <;> exact this
    · intro j o hj hn; exact absurd (hin j o hj) hn
    · intro j _ h; rw [hfalse] at h; cases h
    · intro f' B ob d mk h; cases f <;> cases h
  · cases f <;> exact h
  · simp
end
end Go.Vd
