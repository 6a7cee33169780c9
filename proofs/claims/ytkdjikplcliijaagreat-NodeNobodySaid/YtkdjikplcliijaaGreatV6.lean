/-  The evaluator is sound, part 6: the theorem. -/
import Derived.Test.YtkdjikplcliijaaGreatV5
namespace Go.Vd
section
variable {P : Program} {T : BT} {base : World} {F : List Nat} {env : Env} {hp : Hp} {vs : List MV} {a : Act} {w : World}
variable {N : Nat} {Q : Exit → Act → World → Prop} {R : Ending → World → Prop} {rs : List ResultVar} {md : Md}

theorem KX_ret : ∀ {ks : List K} {a : Act} {w : World}, Q .ret a w → KX P Q ks .ret a w
  | [], _, _, h => h
  | .c _ :: ks, _, _, h => by simp only [KX, Exit.then]; exact KX_ret h
  | .ops _ _ :: ks, _, _, h => by simp only [KX, Exit.then]; exact KX_ret h
  | .blk _ :: ks, _, _, h => by simp only [KX, Exit.inBlock]; exact KX_ret h
  | .inv _ :: ks, _, _, h => by simp only [KX, Exit.then]; exact KX_ret h
  | .lp _ :: ks, _, _, h => by simp only [KX, Exit.then]; exact KX_ret h
  | .gap .. :: ks, _, _, h => by simp only [KX, Exit.then]; exact KX_ret h
  | .gapS .. :: ks, _, _, h => by simp only [KX, Exit.then]; exact KX_ret h
  | .chk .. :: ks, _, _, h => by simp only [KX, Exit.then]; exact KX_ret h
theorem KX_panic : ∀ {ks : List K} {c : List PanicEntry} {a : Act} {w : World}, KX P Q ks (.panic c) a w = Q (.panic c) a w
  | [], _, _, _ => rfl
  | .c _ :: ks, _, _, _ => by simp only [KX, Exit.then]; exact KX_panic
  | .ops _ _ :: ks, _, _, _ => by simp only [KX, Exit.then]; exact KX_panic
  | .blk _ :: ks, _, _, _ => by simp only [KX, Exit.inBlock]; exact KX_panic
  | .inv _ :: ks, _, _, _ => by simp only [KX, Exit.then]; exact KX_panic
  | .lp _ :: ks, _, _, _ => by simp only [KX, Exit.then]; exact KX_panic
  | .gap .. :: ks, _, _, _ => by simp only [KX, Exit.then]; exact KX_panic
  | .gapS .. :: ks, _, _, _ => by simp only [KX, Exit.then]; exact KX_panic
  | .chk .. :: ks, _, _, _ => by simp only [KX, Exit.then]; exact KX_panic
theorem KX_exit : ∀ {ks ks' : List K} {id : Nat} {a : Act} {w : World}, popTo id ks = some ks' → KX P Q ks' .normal a w → KX P Q ks (.exit id) a w
  | [], _, _, _, _, h, _ => by simp [popTo] at h
  | .c _ :: ks, _, _, _, _, h, hk => by simp only [popTo] at h; simp only [KX, Exit.then]; exact KX_exit h hk
  | .ops _ _ :: ks, _, _, _, _, h, hk => by simp only [popTo] at h; simp only [KX, Exit.then]; exact KX_exit h hk
  | .inv _ :: ks, _, _, _, _, h, hk => by simp only [popTo] at h; simp only [KX, Exit.then]; exact KX_exit h hk
  | .lp _ :: ks, _, _, _, _, h, hk => by simp only [popTo] at h; simp only [KX, Exit.then]; exact KX_exit h hk
  | .gap .. :: ks, _, _, _, _, h, hk => by simp only [popTo] at h; simp only [KX, Exit.then]; exact KX_exit h hk
  | .gapS .. :: ks, _, _, _, _, h, hk => by simp only [popTo] at h; simp only [KX, Exit.then]; exact KX_exit h hk
  | .chk .. :: ks, _, _, _, _, h, hk => by simp only [popTo] at h; simp only [KX, Exit.then]; exact KX_exit h hk
  | .blk j :: ks, _, id, _, _, h, hk => by
    simp only [popTo] at h
    simp only [KX, Exit.inBlock]
    split at h
    · rename_i hj
      injection h with h; subst h
      rw [if_pos (Nat.eq_of_beq_eq_true hj).symm]; exact hk
    · rename_i hj
      rw [if_neg (fun e => by subst e; simp at hj)]
      exact KX_exit h hk

theorem okEnv_put (h : okEnv env a) {d : Nat} {v : SV} (hd : d < a.tmps.size) : okEnv ((d, v) :: env) (a.put (some d) v.den) := by
  intro t x hx
  simp only [look_cons] at hx
  split at hx
  · rename_i ht
    injection hx with hx; subst hx
    have := Nat.eq_of_beq_eq_true ht; subst this
    simp [Act.put, hd]
  · rename_i ht
    obtain ⟨h1, h2⟩ := h t x hx
    have hne : d ≠ t := fun e => by subst e; simp at ht
    refine ⟨by simpa [Act.put] using h1, ?_⟩
    rw [← h2]
    simp [Act.put, Array.getElem?_setIfInBounds_ne hne]
theorem size_put (a : Act) (d : Option Tmp) (v : Value) : (a.put d v).tmps.size = a.tmps.size := by cases d <;> simp [Act.put]
theorem ok_put (ok : OK base F env hp vs a w) {d : Nat} {v : SV} (hd : d < a.tmps.size) : OK base F ((d, v) :: env) hp vs (a.put (some d) v.den) w :=
  ⟨by simp [Act.put, ok.defers], okEnv_put ok.env hd, ok.heap, ok.nodup, ok.own, ok.ext, ok.vs⟩

theorem gOK_none (x : Operand) : gOK env none x := fun _ _ _ _ _ _ _ h => by cases h

theorem findM_mem {name : String} : ∀ {l : List (String × Nat)} {f : Nat}, findM name l = some f → (name, f) ∈ l
  | [], f, h => by simp [findM] at h
  | (n, g) :: l, f, h => by
    simp only [findM] at h
    split at h
    · rename_i hn
      have := of_decide_eq_true hn; subst this
      injection h with h; subst h; simp
    · simp [findM_mem h]

theorem method_run (hT : T.All (TiOk P)) {t : Nat} {ti : TI} (hti : T.find t = some ti) {name : String} {f : Nat} (hf : findM name ti.meths = some f) (v : Value) :
    (method (P.types.size + Made.depth) t v name).run P w = .ok (f, v) w := by
  obtain ⟨h1, h2⟩ := (hT.find hti).mt
  have hm := findM_mem hf
  obtain ⟨e, hu⟩ := h2 (by intro h; rw [h] at hm; cases hm)
  have hb := List.all_eq_true.1 h1 _ hm
  unfold methB at hb
  split at hb <;> try (cases hb; done)
  rename_i i hi
  split at hb <;> try (cases hb; done)
  rename_i m hm2
  simp only [Bool.and_eq_true, beq_iff_eq] at hb
  obtain ⟨hp, hfn⟩ := hb
  have hp : m.path = #[] := by simpa using hp
  obtain ⟨n, hn⟩ : ∃ n, P.types.size + Made.depth = n + 1 := ⟨P.types.size + (Made.depth - 1), by simp [Made.depth]; try omega⟩
  rw [hn]
  unfold method
  simp [typeInfo, hi, hm2, hp, hfn, follow, receiverAt, run_underlying hu, Place.get]

theorem evOp_call (hT : T.All (TiOk P)) (ok : OK base F env hp vs a w) {gd : Option (Nat × Bool)} {fr : Nat → Nat × Nat} {nk : Nat} {o : Oper} (hg : ∀ x ∈ o.op.operands.toList, gOK env gd x)
    {f : FuncId} {args : List SV} (h : evOpS T fr nk env hp vs gd o.op = .call f args) {X : Next} (hc : (callFunc f (SV.dens args).toArray).run P w = .ok X w) : (execOp a.eval o).run P w = .ok X w := by
  obtain ⟨dst, op, ty, pos, after, guard⟩ := o
  have hnew : ∀ {cs len}, newChunk fr nk hp cs len ≠ .call f args := by
    intro cs len h
    unfold newChunk at h
    repeat' (split at h <;> try (cases h; done))
  cases op <;> simp only [evOpS] at h <;> try (cases h; done)
  case call c =>
    obtain ⟨callee, cargs, argTypes⟩ := c
    cases callee <;> simp only [] at h <;> try (cases h; done)
    case value x =>
      split at h <;> try (cases h; done)
      rename_i g caps hx
      split at h <;> try (cases h; done)
      rename_i as has
      split at h <;> try (cases h; done)
      rename_i all hall
      injection h with h1 h2; subst h1; subst h2
      rw [appL_eq] at hall
      injection hall with hall; subst hall
      have e1 := ev_den ok (hg x (by simp [Op.operands, Call.operands])) hx
      have e2 := evs_den ok (fun y hy => hg y (by simp [Op.operands, Call.operands]; right; simpa using hy)) has
      have e3 : cargs.map a.eval = (SV.dens as).toArray := by rw [← e2, ← Array.toList_map]
      simp only [execOp]
      simp only [resolve, e1, SV.den, Deferred.ofValue, Sem.run_bind, e3]
      rw [dens_app] at hc
      simp [invoke, hc]
    case invoke x name =>
      split at h <;> try (cases h; done)
      rename_i t y hx
      split at h <;> try (cases h; done)
      rename_i ti hti
      split at h <;> try (cases h; done)
      rename_i g hg'
      split at h <;> try (cases h; done)
      rename_i as has
      injection h with h1 h2; subst h1; subst h2
      have e1 := ev_den ok (hg x (by simp [Op.operands, Call.operands])) hx
      have e2 := evs_den ok (fun y hy => hg y (by simp [Op.operands, Call.operands]; right; simpa using hy)) has
      have e3 : cargs.map a.eval = (SV.dens as).toArray := by rw [← e2, ← Array.toList_map]
      have hm := method_run (w := w) hT hti hg' y.den
      simp only [execOp]
      simp only [resolve, e1, SV.den, Sem.run_bind, e3, Sem.run_pure, Result.andThen_ok, invoke]
      have hc' : (callFunc g (y.den :: SV.dens as).toArray).run P w = .ok X w := hc
      simp [callMethod, hm, hc']
    case builtin b =>
      cases b <;> simp only [] at h <;> try (cases h; done)
      case append =>
        split at h <;> try (cases h; done)
        split at h <;> try (cases h; done)
        split at h <;> try (cases h; done)
        unfold appSV at h
        repeat' (split at h <;> try (cases h; done))
      all_goals (repeat' (first | (cases h; done) | (split at h) | (unfold copySV at h) | (unfold clearSV at h) | (unfold delSV at h)))
  case unOp op t x =>
    cases op <;> simp only [] at h <;> try (cases h; done)
    repeat' (first | (cases h; done) | (split at h))
  case makeFunc fn first caps =>
    cases fn <;> simp only [] at h <;> try (cases h; done)
    repeat' (first | (cases h; done) | (split at h))
  all_goals (repeat' (first | (cases h; done) | (exact (hnew h).elim) | (split at h) | (unfold loadSV at h) | (unfold storeSV at h) | (unfold fieldSV at h) | (unfold indexSV at h) | (unfold ifaceSV at h) | (unfold makeSlSV at h) | (unfold sliceSV at h) | (unfold cutSV at h) | (unfold cut3SV at h) | (unfold idxSV at h) | (unfold lookSV at h) | (unfold updSV at h)))

theorem wpList_do {all : Array Oper} {o : Oper} {l : List Oper} {X : Exit → Act → World → Prop} (hw : Region.wanted o (yielded all a.tmps) = true) (h : o.wp P a w (wpList P all X l) X) : wpList P all X (o :: l) a w := by
  unfold wpList; rw [if_pos hw]; exact .inl h
theorem wpList_skip {all : Array Oper} {o : Oper} {l : List Oper} {X : Exit → Act → World → Prop} (hw : Region.wanted o (yielded all a.tmps) = false) (h : wpList P all X l (a.put o.dst undef) w) : wpList P all X (o :: l) a w := by
  unfold wpList; rw [if_neg (by simp [hw])]; exact h

def resV (tmps : Array Value) : ResultVar → Sem Value
  | .tmp t => pure (tmps.getD t undef)
  | .cell a t => do loadVar t (← asAddr (tmps.getD a undef))
theorem results_eq (fn : Func) (tmps : Array Value) : results fn tmps = (do let vs ← fn.results.mapM (resV tmps); pure (if h : vs.size = 1 then vs[0] else .tuple vs)) := by
  unfold results
  congr 1

theorem evRes_run (hT : T.All (TiOk P)) (ok : OK base F env hp vs a w) : ∀ {l : List ResultVar} {sd : List Sd} {r : List SV} {sd' : List Sd}, evRes T env hp vs l sd = some (r, sd') → All sd' →
    (l.mapM (resV a.tmps)).run P w = .ok (SV.dens r) w
  | [], sd, r, sd', h, hs => by simp [evRes] at h; obtain ⟨rfl, _⟩ := h; simp [SV.dens]
  | .tmp t :: l, sd, r, sd', h, hs => by
    simp only [evRes] at h
    split at h <;> try (cases h; done)
    rename_i v hng hl
    split at h <;> try (cases h; done)
    rename_i r' s' hh
    injection h with h; injection h with h1 h2; subst h1; subst h2
    have ih := evRes_run hT ok hh hs
    have e := (ok.env t v hl).2
    have e1 : (resV a.tmps (.tmp t)).run P w = .ok v.den w := by simp only [resV, e]; simp
    simp [List.mapM_cons, SV.dens, ih, e1]
  | .cell t ty :: l, sd, r, sd', h, hs => by
    simp only [evRes] at h
    split at h <;> try (cases h; done)
    rename_i x hl
    split at h <;> try (cases h; done)
    rename_i v s1 hld
    split at h <;> try (cases h; done)
    rename_i sd2 hap
    split at h <;> try (cases h; done)
    rename_i r' s' hh
    injection h with h; injection h with h1 h2; subst h1; subst h2
    have ih := evRes_run hT ok hh hs
    have hs1 := (All.app hap (evRes_sides hh hs)).1
    have e := (ok.env t x hl).2
    have e2 := loadSV_run hT ok hld hs1
    have hp : ∃ ad, x.den = .pointer (some ad) := by
      unfold loadSV at hld
      split at hld <;> try (cases hld; done)
      split at hld
      · exact ⟨_, rfl⟩
      · exact ⟨_, rfl⟩
      · cases hld
    obtain ⟨ad, had⟩ := hp
    rw [had] at e2
    have e1 : (resV a.tmps (.cell t ty)).run P w = .ok v.den w := by
      simp only [resV, e, had]
      simpa [asAddr, Instr.loadAt, Instr.sureAddr] using e2
    simp [List.mapM_cons, SV.dens, ih, e1]

theorem packRes_run {fn : Func} (hT : T.All (TiOk P)) (ok : OK base F env hp vs a w) {sd : List Sd} {r : List SV} {sd' : List Sd} (h : evRes T env hp vs fn.results.toList sd = some (r, sd')) (hs : All sd') {v : SV} (hv : packRes r = some v) :
    (results fn a.tmps).run P w = .ok v.den w := by
  have e := evRes_run hT ok h hs
  have e2 : (fn.results.mapM (resV a.tmps)).run P w = .ok (SV.dens r).toArray w := by
    rw [Array.mapM_eq_mapM_toList]; simp [e]
  rw [results_eq]
  simp only [Sem.run_bind, e2, Result.andThen_ok]
  unfold packRes at hv
  split at hv
  · injection hv with hv; subst hv; simp [SV.dens]
  · rename_i hn
    injection hv with hv; subst hv
    have : ¬ (SV.dens r).toArray.size = 1 := by
      simp only [List.size_toArray, dens_length]
      intro h1
      match r, h1 with
      | [x], _ => exact hn x rfl
    rw [dif_neg this]; simp [SV.den]

theorem yielded_eq {all : Array Oper} {j tj : Nat} {oj : Oper} {p : Bool} (h1 : nth all.toList j = some oj) (h2 : oj.dst = some tj) (h3 : tj < a.tmps.size) (h4 : a.tmps.getD tj undef = .bool p) : yielded all a.tmps j = some p := by
  rw [nth_eq] at h1
  have h1' : all[j]? = some oj := by rw [← Array.getElem?_toList]; exact h1
  have h5 : a.tmps[tj]? = some (.bool p) := by
    rw [Array.getElem?_eq_getElem h3]
    rw [Array.getD_eq_getD_getElem?, Array.getElem?_eq_getElem h3] at h4
    simpa using h4
  simp [yielded, h1', h2, h5]

theorem yielded_undef {all : Array Oper} {j tj : Nat} {oj : Oper} (h1 : nth all.toList j = some oj) (h2 : oj.dst = some tj) (h3 : tj < a.tmps.size) (h4 : a.tmps.getD tj undef = undef) : yielded all a.tmps j = none := by
  rw [nth_eq] at h1
  have h1' : all[j]? = some oj := by rw [← Array.getElem?_toList]; exact h1
  have h5 : a.tmps[tj]? = some undef := by
    rw [Array.getElem?_eq_getElem h3]
    rw [Array.getD_eq_getD_getElem?, Array.getElem?_eq_getElem h3] at h4
    simpa using h4
  simp [yielded, h1', h2, h5, undef]
theorem wanted_undef {all : Array Oper} {o oj : Oper} {j tj : Nat} {pol : Bool} (hgd : o.guard = some (j, pol)) (h1 : nth all.toList j = some oj) (h2 : oj.dst = some tj) (h3 : tj < a.tmps.size) (h4 : a.tmps.getD tj undef = (SV.und).den) :
    Region.wanted o (yielded all a.tmps) = false := by
  simp only [SV.den] at h4
  simp only [Region.wanted, hgd, yielded_undef h1 h2 h3 h4]
  rfl
theorem wanted_nested {all : Array Oper} {o oj : Oper} {j tj t' : Nat} {pol pol' p' q pe : Bool} (hgd : o.guard = some (j, pol)) (h1 : nth all.toList j = some oj) (h2 : oj.dst = some tj) (h3 : tj < a.tmps.size)
    (h4 : a.tmps.getD tj undef = (SV.gd t' pol' p' (.bo q)).den) (hpe : gcond pol' p' pol q = some pe) : Region.wanted o (yielded all a.tmps) = (pe == pol) := by
  simp only [SV.den] at h4
  by_cases hp : p' = pol'
  · rw [if_pos (by simp [hp])] at h4
    simp only [Region.wanted, hgd, yielded_eq h1 h2 h3 h4]
    subst hp
    cases p' <;> cases pol <;> simp [gcond] at hpe <;> subst hpe <;> cases q <;> rfl
  · rw [if_neg (by simpa using hp)] at h4
    simp only [Region.wanted, hgd, yielded_undef h1 h2 h3 h4]
    cases p' <;> cases pol' <;> simp at hp <;> cases pol <;> simp [gcond] at hpe <;> subst hpe <;> rfl
theorem ungd_sound {tj : Nat} {b p : Bool} (hp : p = b) : ∀ {env e : Env} {s : List Sd}, ungd tj b p env = some (e, s) → All s → ∀ t v, look e t = some v → ∃ u, look env t = some u ∧ u.den = v.den
  | [], e, s, h, hs, t, v, hl => by simp [ungd] at h; obtain ⟨rfl, _⟩ := h; simp [look_nil] at hl
  | (t0, v0) :: l, e, s, h, hs, t, v, hl => by
    simp only [ungd] at h
    split at h <;> try (cases h; done)
    rename_i e1 s1 h1
    have key : ∀ {v1 : SV} {s2 : List Sd}, some ((t0, v1) :: e1, s2) = some (e, s) → v0.den = v1.den → (All s2 → All s1) → ∃ u, look ((t0, v0) :: l) t = some u ∧ u.den = v.den := by
      intro v1 s2 h he h2
      injection h with h; injection h with g1 g2; subst g1; subst g2
      simp only [look_cons] at hl ⊢
      split at hl
      · rename_i hk
        injection hl with hl; subst hl
        exact ⟨v0, rfl, he⟩
      · rename_i hk
        exact ungd_sound hp h1 (h2 hs) t v hl
    split at h
    · rename_i j pol q x
      split at h
      · split at h
        · rename_i hbp
          have hs' : All (Sd.eb q p :: s1) := by injection h with h; injection h with g1 g2; rw [g2]; exact hs
          have hq : q = p := hs'.1
          exact key h (by simp [SV.den, hq, hp]; intro hne; simp at hbp; exact absurd hbp hne) (fun h => h.2)
        · rename_i hbp
          have hs' : All (Sd.eb q p :: s1) := by injection h with h; injection h with g1 g2; rw [g2]; exact hs
          have hq : q = p := hs'.1
          exact key h (by simp [SV.den, hq, hp]; intro hne; simp at hbp; exact absurd hne hbp) (fun h => h.2)
      · exact key h rfl (fun h => h)
    · exact key h rfl (fun h => h)
theorem okEnv_le {e : Env} (h : okEnv env a) (hl : ∀ t v, look e t = some v → ∃ u, look env t = some u ∧ u.den = v.den) : okEnv e a := by
  intro t v hv
  obtain ⟨u, h1, h2⟩ := hl t v hv
  obtain ⟨h3, h4⟩ := h t u h1
  exact ⟨h3, by rw [h4, h2]⟩

theorem okEnv_more {t : Nat} {v u : SV} (h : okEnv env a) (hl : look env t = some v) (he : u.den = v.den) : okEnv ((t, u) :: env) a := by
  intro t' x hx
  simp only [look_cons] at hx
  split at hx
  · rename_i ht
    injection hx with hx; subst hx
    have := Nat.eq_of_beq_eq_true ht; subst this
    obtain ⟨h1, h2⟩ := h _ _ hl
    exact ⟨h1, by rw [h2, he]⟩
  · exact h _ _ hx


/-! ### Where what is laid comes to lie -/
def Agree (pre : List (Nat × (Nat × Nat))) (fr : Nat → Nat × Nat) : Prop := ∀ p ∈ pre, fr p.1 = p.2
structure Pre (nk : Nat) (pre : List (Nat × (Nat × Nat))) : Prop where
  k : (pre.map (·.1)).Nodup
  lt : ∀ p ∈ pre, p.1 < nk
theorem Pre.nil (nk : Nat) : Pre nk [] := ⟨by simp, by simp⟩
theorem Pre.agree {nk : Nat} : ∀ {pre : List (Nat × (Nat × Nat))}, Pre nk pre → ∃ fr, Agree pre fr
  | [], _ => ⟨fun _ => (0, 0), fun p hp => by cases hp⟩
  | q :: pre, h => by
    have hk := h.k
    simp only [List.map_cons, List.nodup_cons] at hk
    obtain ⟨fr, hf⟩ := Pre.agree (nk := nk) (pre := pre) ⟨hk.2, fun p hp => h.lt p (by simp [hp])⟩
    refine ⟨fun k => if k = q.1 then q.2 else fr k, fun p hp => ?_⟩
    simp only [List.mem_cons] at hp
    rcases hp with rfl | hp
    · simp
    · have hne : p.1 ≠ q.1 := fun e => hk.1 (by rw [← e]; exact List.mem_map.2 ⟨p, hp, rfl⟩)
      simp [hne, hf p hp]
theorem Pre.cons {nk : Nat} {pre : List (Nat × (Nat × Nat))} (h : Pre nk pre) (bc : Nat × Nat) : Pre (nk + 1) ((nk, bc) :: pre) := by
  refine ⟨?_, fun p hp => ?_⟩
  · simp only [List.map_cons, List.nodup_cons]
    refine ⟨fun hm => ?_, h.k⟩
    obtain ⟨p, hp1, hp2⟩ := List.mem_map.1 hm
    have := h.lt p hp1
    omega
  · simp only [List.mem_cons] at hp
    rcases hp with rfl | hp
    · exact Nat.lt_succ_self _
    · exact Nat.lt_succ_of_lt (h.lt p hp)

theorem newChunk_fr (nk : Nat) (hp : Hp) (cs : List SV) (len : Option (Nat × Nat)) : ∃ f : Nat × Nat → OR, (∀ fr, newChunk fr nk hp cs len = f (fr nk)) ∧ ∀ x, ∃ v hp' sd, f x = .eff v hp' sd :=
  ⟨fun x => newChunk (fun _ => x) nk hp cs len, fun fr => by cases len <;> rfl, fun x => by cases len <;> exact ⟨_, _, _, rfl⟩⟩
/-- what 'fr' has to do with it: nothing, but where what is laid comes to lie -/
theorem evOp_fr (T : BT) (nk : Nat) (env : Env) (hp : Hp) (vs : List MV) (gd : Option (Nat × Bool)) (op : Op) :
    ∃ f : Nat × Nat → OR, (∀ fr, evOpS T fr nk env hp vs gd op = f (fr nk)) ∧ ((∀ x y, f x = f y) ∨ ∀ x, ∃ v hp' sd, f x = .eff v hp' sd) := by
  have no : ∀ {g : (Nat → Nat × Nat) → OR} (r : OR), (∀ fr, g fr = r) → ∃ f : Nat × Nat → OR, (∀ fr, g fr = f (fr nk)) ∧ ((∀ x y, f x = f y) ∨ ∀ x, ∃ v hp' sd, f x = .eff v hp' sd) := fun r h => ⟨fun _ => r, h, .inl fun _ _ => rfl⟩
  have ch : ∀ (cs : List SV) (len : Option (Nat × Nat)), ∃ f : Nat × Nat → OR, (∀ fr, newChunk fr nk hp cs len = f (fr nk)) ∧ ((∀ x y, f x = f y) ∨ ∀ x, ∃ v hp' sd, f x = .eff v hp' sd) := fun cs len => by
    obtain ⟨f, h1, h2⟩ := newChunk_fr nk hp cs len
    exact ⟨f, h1, .inr h2⟩
  cases op
  case alloc t =>
    simp only [evOpS]
    cases T.find t with
    | none => exact no _ fun _ => rfl
    | some ti =>
      simp only []
      cases appL ti.zero [] with
      | none => exact no _ fun _ => rfl
      | some z => exact ch _ _
  case box t x =>
    simp only [evOpS]
    cases ev env gd x with
    | none => exact no _ fun _ => rfl
    | some v =>
      simp only []
      cases v.cells with
      | none => exact no _ fun _ => rfl
      | some z => exact ch _ _
  case buildSlice t len parts =>
    simp only [evOpS]
    cases T.find t with
    | none => exact no _ fun _ => rfl
    | some ti =>
      simp only []
      cases evParts env gd parts.toList with
      | none => exact no _ fun _ => rfl
      | some ps =>
        simp only []
        cases ti.kind <;> try exact no _ fun _ => rfl
        rename_i es et
        simp only []
        cases T.find et with
        | none => exact no _ fun _ => rfl
        | some te =>
          simp only []
          cases Nat.beq te.size es with
          | false => exact no _ fun _ => rfl
          | true =>
            simp only []
            cases zerosN te.zero len with
            | none => exact no _ fun _ => rfl
            | some z =>
              simp only []
              cases fillSV (fun i => some (i * es, es)) ps z with
              | none => exact no _ fun _ => rfl
              | some cs =>
                simp only []
                cases Nat.ble (len * es) 16777216 with
                | false => exact no _ fun _ => rfl
                | true => exact ch _ _
  case makeSlice t l c =>
    simp only [evOpS]
    cases ev env gd l with
    | none => exact no _ fun _ => rfl
    | some l =>
      simp only []
      cases ev env gd c with
      | none => exact no _ fun _ => rfl
      | some c =>
        simp only [makeSlSV]
        repeat' split
        all_goals first | exact ch _ _ | exact no _ fun _ => rfl
  case makeMap t r =>
    cases r with
    | none => exact ⟨fun x => .eff (.mp x.1 nk) ((nk, x.1, .map []) :: hp) [], fun fr => rfl, .inr fun x => ⟨_, _, _, rfl⟩⟩
    | some r => exact no _ fun _ => rfl
  case unOp op t x => cases op <;> exact no _ fun _ => rfl
  case makeFunc fn f c => cases fn <;> exact no _ fun _ => rfl
  case call c =>
    obtain ⟨callee, args, argTypes⟩ := c
    cases callee
    case builtin b =>
      cases b
      case append =>
        simp only [evOpS]
        repeat' split
        all_goals first | exact no _ fun _ => rfl | skip
        rename_i s y _
        generalize appPlan T hp _ s y = pl
        cases pl with
        | lay n es l hp0 sd => exact ⟨fun x => .eff (.sc x.1 nk 0 n (.sym x.2)) ((nk, x.1, .cells l (x.2 * es)) :: hp0) sd, fun fr => rfl, .inr fun x => ⟨_, _, _, rfl⟩⟩
        | _ => exact no _ fun _ => rfl
      all_goals exact no _ fun _ => rfl
    all_goals exact no _ fun _ => rfl
  all_goals exact no _ fun _ => rfl


theorem ok_ro (ok : OK base F env hp vs a w) {w' : World} (h : Ext w [] w') : OK base F env hp vs a w' := by
  have hlt : ∀ b, b ∈ blocks hp → w'.heap[b]? = w.heap[b]? := fun b hb => h.block b (okHp_lt ok.heap hb) (by simp)
  refine ⟨ok.defers, ok.env, ?_, ok.nodup, ok.own, ?_, ok.vs⟩
  · intro k b l hm
    have hE := ok.heap k b l hm
    have e := hlt b (List.mem_map.2 ⟨_, hm, rfl⟩)
    cases l with
    | cells l r' => obtain ⟨E', q, h3, h4⟩ := hE; exact ⟨E', q, h3, by rw [e]; exact h4⟩
    | map l => obtain ⟨es, ck, h3, h4⟩ := hE; exact ⟨es, ck, by rw [e]; exact h3, h4⟩
  · exact ⟨h.os.trans ok.ext.os, h.tape.trans ok.ext.tape, h.output.trans ok.ext.output, Nat.le_trans ok.ext.size h.size, fun b hb hn => by
      rw [h.block b (Nat.lt_of_lt_of_le hb ok.ext.size) (by simp)]
      exact ok.ext.block b hb hn⟩

theorem qval_sound (hM : MdOk P md) {gd : Option (Nat × Bool)} {o : Oper} {v : SV} {s1 : List Sd} (ok : OK base F env hp vs a w) (hg : ∀ x ∈ o.op.operands.toList, gOK env gd x)
    (h : qval md env hp vs gd o = some (v, s1)) (hs : All s1) : (execOp a.eval o).run P w = .ok (.value v.den) w := by
  unfold qval at h
  split at h
  · rename_i he
    injection h with h; injection h with h1 h2; subst h1; subst h2
    rw [evOp_eq] at he
    exact evOp_val hM.T ok hg he hs
  · cases h
theorem qstep_now (hM : MdOk P md) {ops : Array Oper} {o : Oper} {sd sd' : List Sd} {v : SV} (h : qstep md env hp vs sd ops.toList o = some (v, sd')) (hs : All sd') (ok : OK base F env hp vs a w) :
    StepNow P ops o a w v.den := by
  have plain : ∀ {v s1}, qval md env hp vs none o = some (v, s1) → All s1 → Region.wanted o (yielded ops a.tmps) = true → StepNow P ops o a w v.den := by
    intro v s1 hq h1 hw
    exact .inl ⟨hw, qval_sound hM ok (fun x _ => gOK_none x) hq h1⟩
  unfold qstep at h
  cases hgd : o.guard with
  | none =>
    simp only [hgd] at h
    split at h <;> try (cases h; done)
    rename_i hq
    split at h <;> try (cases h; done)
    rename_i hap
    injection h with h; injection h with h1 h2; subst h1; subst h2
    exact plain hq (joinS_all hap hs).1 (by simp [Region.wanted, hgd])
  | some g =>
    obtain ⟨j, pol⟩ := g
    simp only [hgd] at h
    cases hj : nth ops.toList j with
    | none => simp only [hj] at h; cases h
    | some oj =>
      simp only [hj] at h
      cases htj : oj.dst with
      | none => simp only [htj] at h; cases h
      | some tj =>
        simp only [htj] at h
        have hwant : ∀ {p : Bool} {v : SV}, look env tj = some v → v.den = .bool p → Region.wanted o (yielded ops a.tmps) = (p == pol) := by
          intro p v hl hv
          obtain ⟨h1, h2⟩ := ok.env _ _ hl
          have := yielded_eq hj htj h1 (by rw [h2, hv])
          simp only [Region.wanted, hgd, this]
          cases p <;> cases pol <;> rfl
        have symb : ∀ {p : Bool} {v0 : SV} {s1 sd1 : List Sd}, Region.wanted o (yielded ops a.tmps) = (p == pol) → qval md env hp vs (some (tj, pol)) o = some (v0, s1) → wrapSides p pol s1 sd = some sd1 → gSides env tj pol p o.op.operands.toList sd1 = some sd' → StepNow P ops o a w (SV.gd tj pol p v0).den := by
          intro p v0 s1 sd1 hw hq hws hgs
          obtain ⟨ha1, ha2⟩ := gSides_all hgs hs
          obtain ⟨ha3, ha4⟩ := wrapSides_all hws ha1
          by_cases hpp : p = pol
          · have hg : ∀ x ∈ o.op.operands.toList, gOK env (some (tj, pol)) x := by
              intro x hx t ht j' pol' q y hlk he
              injection he with he; injection he with he1 he2; subst he1; subst he2
              rw [ha2 x hx t ht q y hlk]; exact hpp
            refine .inl ⟨by rw [hw]; simp [hpp], ?_⟩
            have e3 : (SV.gd tj pol p v0).den = v0.den := by simp [SV.den, hpp]
            rw [e3]; exact qval_sound hM ok hg hq (ha3 hpp)
          · exact .inr ⟨by rw [hw]; simpa using hpp, by simp [SV.den, hpp]⟩
        cases hl : look env tj with
        | none => simp only [hl] at h; cases h
        | some u =>
          cases u <;> try (simp only [hl] at h; cases h; done)
          case tt =>
            have hw := hwant hl rfl
            simp only [hl] at h
            cases pol with
            | true =>
              simp only [] at h
              split at h <;> try (cases h; done)
              rename_i hq
              split at h <;> try (cases h; done)
              rename_i hap
              injection h with h; injection h with h1 h2; subst h1; subst h2
              exact plain hq (joinS_all hap hs).1 (by simpa using hw)
            | false =>
              injection h with h; injection h with h1 h2; subst h1
              exact .inr ⟨by simpa using hw, by simp [SV.den]⟩
          case ff =>
            have hw := hwant hl rfl
            simp only [hl] at h
            cases pol with
            | false =>
              simp only [] at h
              split at h <;> try (cases h; done)
              rename_i hq
              split at h <;> try (cases h; done)
              rename_i hap
              injection h with h; injection h with h1 h2; subst h1; subst h2
              exact plain hq (joinS_all hap hs).1 (by simpa using hw)
            | true =>
              injection h with h; injection h with h1 h2; subst h1
              exact .inr ⟨by simpa using hw, by simp [SV.den]⟩
          case und =>
            simp only [hl] at h
            injection h with h; injection h with h1 h2; subst h1
            refine .inr ⟨?_, by simp [SV.den]⟩
            obtain ⟨h1, h2⟩ := ok.env _ _ hl
            exact wanted_undef hgd hj htj h1 h2
          case bo p =>
            have hw := hwant hl rfl
            simp only [hl] at h
            split at h <;> try (cases h; done)
            rename_i v0 s1 hq
            split at h <;> try (cases h; done)
            rename_i sd1 hws
            split at h <;> try (cases h; done)
            rename_i sd2 hgs
            injection h with h; injection h with h1 h2; subst h1; subst h2
            exact symb hw hq hws hgs
          case gd t' pol' p' x =>
            cases x <;> try (simp only [hl] at h; cases h; done)
            rename_i q
            simp only [hl] at h
            split at h <;> try (cases h; done)
            rename_i v0 s1 hq
            split at h <;> try (cases h; done)
            rename_i pe hpe
            split at h <;> try (cases h; done)
            rename_i sd1 hws
            split at h <;> try (cases h; done)
            rename_i sd2 hgs
            injection h with h; injection h with h1 h2; subst h1; subst h2
            obtain ⟨h1, h2⟩ := ok.env _ _ hl
            exact symb (wanted_nested hgd hj htj h1 h2 hpe) hq hws hgs
theorem qstep_sound (hM : MdOk P md) {ops : Array Oper} {o : Oper} {sd sd' : List Sd} {v : SV} (h : qstep md env hp vs sd ops.toList o = some (v, sd')) (hs : All sd') (ok : OK base F env hp vs a w) :
    StepX P ops o a w v.den := fun W' hW => qstep_now hM h hs (ok_ro ok hW)

mutual
theorem sameSV_den : ∀ {x y : SV} {s : List Sd}, sameSV x y = some s → All s → x.den = y.den
  | .agg l, y, s, h, hs => by
    cases y <;> simp only [sameSV] at h <;> try (cases h; done)
    simp [SV.den, sameL_den h hs]
  | .tup l, y, s, h, hs => by
    cases y <;> simp only [sameSV] at h <;> try (cases h; done)
    simp [SV.den, sameL_den h hs]
  | .fn f l, y, s, h, hs => by
    cases y <;> simp only [sameSV] at h <;> try (cases h; done)
    split at h <;> try (cases h; done)
    rename_i hb
    have := Nat.eq_of_beq_eq_true hb; subst this
    simp [SV.den, sameL_den h hs]
  | .ifc t x, y, s, h, hs => by
    cases y <;> simp only [sameSV] at h <;> try (cases h; done)
    split at h <;> try (cases h; done)
    rename_i hb
    have := Nat.eq_of_beq_eq_true hb; subst this
    simp [SV.den, sameSV_den h hs]
  | .it k n, y, s, h, hs => by
    cases y <;> simp only [sameSV] at h <;> try (cases h; done)
    split at h <;> try (cases h; done)
    rename_i hb
    injection h with h; subst h
    have h1 := of_decide_eq_true hb
    have h2 : n = _ := hs.1
    rw [h1, h2]
  | .tt, y, s, h, hs => by cases y <;> simp only [sameSV] at h <;> first | rfl | cases h
  | .ff, y, s, h, hs => by cases y <;> simp only [sameSV] at h <;> first | rfl | cases h
  | .nilp, y, s, h, hs => by cases y <;> simp only [sameSV] at h <;> first | rfl | cases h
  | .nils, y, s, h, hs => by cases y <;> simp only [sameSV] at h <;> first | rfl | cases h
  | .nilf, y, s, h, hs => by cases y <;> simp only [sameSV] at h <;> first | rfl | cases h
  | .nili, y, s, h, hs => by cases y <;> simp only [sameSV] at h <;> first | rfl | cases h
  | .und, y, s, h, hs => by cases y <;> simp only [sameSV] at h <;> first | rfl | cases h
  | .gd .., y, s, h, hs => by cases y <;> simp only [sameSV] at h <;> cases h
  | .bo p, y, s, h, hs => by
    cases y <;> simp only [sameSV] at h <;> try (cases h; done)
    injection h with h; subst h
    have : p = _ := hs.1
    rw [this]
  | .str p, y, s, h, hs => by
    cases y <;> simp only [sameSV] at h <;> try (cases h; done)
    injection h with h; subst h
    have : p = _ := hs.1
    rw [this]
  | .raw p, y, s, h, hs => by
    cases y <;> simp only [sameSV] at h <;> try (cases h; done)
    injection h with h; subst h
    have : p = _ := hs.1
    rw [this]
  | .mp bk c, y, s, h, hs => by
    cases y <;> simp only [sameSV] at h <;> try (cases h; done)
    injection h with h; subst h
    have : bk = _ := hs.1
    simp [SV.den, this]
  | .pt bk c off, y, s, h, hs => by
    cases y <;> simp only [sameSV] at h <;> try (cases h; done)
    split at h <;> try (cases h; done)
    rename_i hb
    have h1 := Nat.eq_of_beq_eq_true hb; subst h1
    injection h with h; subst h
    have : bk = _ := hs.1
    simp [SV.den, this]
  | .pv ad c ix off, y, s, h, hs => by
    cases y <;> simp only [sameSV] at h <;> try (cases h; done)
    split at h <;> try (cases h; done)
    rename_i hb
    have h1 := Nat.eq_of_beq_eq_true hb; subst h1
    injection h with h; subst h
    have : ad = _ := hs.1
    simp [SV.den, this]
  | .sc bk c off len ex, y, s, h, hs => by
    cases y <;> simp only [sameSV] at h <;> try (cases h; done)
    split at h <;> try (cases h; done)
    rename_i hb
    simp only [Bool.and_eq_true] at hb
    have h1 := Nat.eq_of_beq_eq_true hb.1; subst h1
    have h2 := Nat.eq_of_beq_eq_true hb.2; subst h2
    injection h with h; subst h
    have e1 : bk = _ := hs.1
    have e2 : ex.val = _ := hs.2.1
    simp [SV.den, e1, e2]
  | .sl A c len cap, y, s, h, hs => by
    cases y <;> simp only [sameSV] at h <;> try (cases h; done)
    injection h with h; subst h
    have e1 : A = _ := hs.1
    have e2 : len = _ := hs.2.1
    have e3 : cap = _ := hs.2.2.1
    simp [SV.den, e1, e2, e3]
theorem sameL_den : ∀ {x y : List SV} {s : List Sd}, sameL x y = some s → All s → SV.dens x = SV.dens y
  | [], y, s, h, hs => by cases y <;> simp only [sameL] at h <;> first | rfl | cases h
  | x :: l, y, s, h, hs => by
    cases y <;> simp only [sameL] at h <;> try (cases h; done)
    split at h <;> try (cases h; done)
    rename_i h1
    split at h <;> try (cases h; done)
    rename_i h2
    obtain ⟨e1, e2⟩ := All.app h hs
    simp [SV.dens, sameSV_den h1 e1, sameL_den h2 e2]
end

theorem recheck_sound (hM : MdOk P md) {ops : Array Oper} {m : Nat} (ok : OK base F env hp vs a w) : ∀ {dn : List Nat} {sd sd' : List Sd}, recheck md env hp vs ops.toList m dn sd = some sd' → All sd' →
    ∀ q ∈ dn, ∀ o d, ops[q]? = some o → o.dst = some d → m.testBit q = false → StepX P ops o a w (a.tmps.getD d undef)
  | [], sd, sd', h, hs, q, hq => by cases hq
  | q0 :: l, sd, sd', h, hs, q, hq => by
    intro o d ho hd hb
    simp only [recheck] at h
    simp only [List.mem_cons] at hq
    split at h
    · rename_i hbit
      rcases hq with rfl | hq
      · rw [bitB_spec, hb] at hbit; cases hbit
      · exact recheck_sound hM ok h hs q hq o d ho hd hb
    · split at h <;> try (cases h; done)
      rename_i o0 ho0
      split at h <;> try (cases h; done)
      rename_i d0 hd0
      split at h <;> try (cases h; done)
      rename_i u hu
      split at h <;> try (cases h; done)
      rename_i v sd1 hv
      rw [forceK_eq] at h
      split at h <;> try (cases h; done)
      rename_i s2 hs2
      split at h <;> try (cases h; done)
      rename_i sd2 hj
      obtain ⟨g1, g2⟩ := joinS_all hj (recheck_sides h hs)
      rcases hq with rfl | hq
      · rw [nth_eq, Array.getElem?_toList, ho] at ho0
        injection ho0 with ho0; subst ho0
        rw [hd] at hd0; injection hd0 with hd0; subst hd0
        have e := sameSV_den hs2 g1
        rw [force_den] at e
        rw [(ok.env _ _ hu).2, ← e]
        exact qstep_sound hM hv g2 ok
      · exact recheck_sound hM ok h hs q hq o d ho hd hb

/-- the value of an operation that lays a block, wherever it comes to lie -/
def mkV : Option (Nat × Nat) → Nat → Value
  | none, B => .pointer (some ⟨B, 0, none⟩)
  | some (n, m), B => .slice (some ⟨B, 0, none⟩) n (n + m)
theorem lays_of (hT : T.All (TiOk P)) (ok : OK base F env hp vs a w) {fr : Nat → Nat × Nat} {nk : Nat} {o : Oper} (hc : (cls o).isA = true) {v : SV} {hp' : Hp} {s1 : List Sd} (h : evOpS T fr nk env hp vs none o.op = .eff v hp' s1) :
    ∃ cs len E, newChunk fr nk hp cs len = .eff v hp' s1 ∧ laysB P o a (mkV len) (.cells (SV.dens cs).toArray E (0, 0)) := by
  obtain ⟨dst, op, ty, pos, after, guard⟩ := o
  have hg : ∀ x, gOK env none x := fun _ _ _ _ _ _ _ _ h => by cases h
  cases op <;> simp only [cls, opPC] at hc <;> try (simp [PC.isA] at hc; done)
  case call c =>
    obtain ⟨callee, args, argTypes⟩ := c
    cases callee <;> try (simp [PC.isA] at hc; done)
    rename_i b
    cases b <;> simp [PC.isA] at hc
  case alloc t =>
    simp only [evOpS] at h
    split at h <;> try (cases h; done)
    rename_i ti hti
    split at h <;> try (cases h; done)
    rename_i z hz
    rw [appL_eq] at hz
    injection hz with hz; simp at hz; subst hz
    obtain ⟨d, i, zv, hu, hi, hsz, hzv, hzc, _, _, _, _⟩ := (hT.find hti).ex
    have hzr : ∀ W, (zeroValue t).run P W = .ok zv W := fun W => by simp [zeroValue, typeInfo, hi, hzv]
    have hcc : zv.cells = (SV.dens ti.zero).toArray := by rw [← hzc]
    refine ⟨_, _, t, h, fun W => ?_⟩
    simp [execOp, Instr.alloc, hzr, newVar, newRow, newObj, Sem.run, hcc, mkV]
  case box t x =>
    simp only [evOpS] at h
    split at h <;> try (cases h; done)
    rename_i u hu
    split at h <;> try (cases h; done)
    rename_i cs hcs
    refine ⟨_, _, t, h, fun W => ?_⟩
    simp [execOp, Instr.box, ev_den ok (hg x) hu, newVar, newRow, newObj, Sem.run, cells_den hcs, mkV]
  case buildSlice t len parts =>
    simp only [evOpS] at h
    split at h <;> try (cases h; done)
    rename_i ti hti
    split at h <;> try (cases h; done)
    rename_i ps hps
    split at h <;> try (cases h; done)
    rename_i es et hk
    split at h <;> try (cases h; done)
    rename_i te hte
    split at h <;> try (cases h; done)
    rename_i hse
    have hse := Nat.eq_of_beq_eq_true hse
    split at h <;> try (cases h; done)
    rename_i z hz
    split at h <;> try (cases h; done)
    rename_i cs hcs
    split at h <;> try (cases h; done)
    rename_i hsmall
    obtain ⟨d, i, zv, hu, hi, hsz, hzv, hzc, _, hkk, _, _⟩ := (hT.find hti).ex
    rw [hk] at hkk
    obtain ⟨rfl, _⟩ := hkk
    obtain ⟨d2, i2, zv2, hu2, hi2, hsz2, hzv2, hzc2, _, _, hzl, _⟩ := (hT.find hte).ex
    refine ⟨_, _, et, h, fun W => ?_⟩
    have hsize : (sizeOf et).run P W = .ok es W := by rw [run_sizeOf W hi2, cellsOf_info hi2, hsz2, hse]
    have hzr : (zeroValue et).run P W = .ok zv2 W := by simp [zeroValue, typeInfo, hi2, hzv2]
    have e := evParts_den ok (fun x hx => hg x.2) hps
    have hf := fillSV_fill hcs
    have hcc : zv2.cells = (SV.dens te.zero).toArray := by rw [← hzc2]
    have hz2 := zerosN_den hz
    have hlen : (SV.dens te.zero).length = es := by rw [dens_length, hzl, hse]
    have hza := zeros_array (SV.dens te.zero) len
    rw [hlen] at hza
    rw [hz2, ← hza] at hf
    have hp1 : (parts.map (fun p => (p.1, a.eval p.2))).toList = ps.map (fun p => (p.1, p.2.den)) := by rw [Array.toList_map, ← e]
    have hns : ¬ (len * es > 2 ^ 24) := by rw [Nat.ble_eq] at hsmall; omega
    simp only [execOp]
    unfold Instr.buildSlice
    simp only [Sem.run_bind, run_underlying hu, Result.andThen_ok, hsize, if_neg hns]
    by_cases h0 : len * es = 0
    · have hA0 : Array.map (fun x => (#[] : Array Value)[x % (#[] : Array Value).size]!) (Array.range (len * es)) = Array.map (fun j => (SV.dens te.zero).toArray[j % (SV.dens te.zero).toArray.size]!) (Array.range (len * es)) := by rw [h0]; simp
      simp only [if_pos h0, pure_bind]
      rw [hA0, hp1, hf]
      simp [newRow, newObj, Sem.run, mkV]
    · simp only [if_neg h0, Sem.run_bind, hzr, Result.andThen_ok, pure_bind, hcc]
      rw [hp1, hf]
      simp [newRow, newObj, Sem.run, mkV]
end
end Go.Vd
