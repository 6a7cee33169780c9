/-  Regions that draw their order: whatever the order, the outcome is that of the plan. -/
import Derived.Test.YtkdjikplcliijaaGreatV4b
namespace Go.Vd
section
variable {P : Program} {T : BT} {base : World} {F : List Nat} {env : Env} {hp : Hp} {vs : List MV} {a : Act} {w : World}

/-- the temporaries that an operation's outcome hangs on -/
noncomputable def looks (all : List Oper) (o : Oper) : List Nat := guardTmp all o ++ tmpsOf o.op.operands.toList

theorem memB_spec : ∀ {t : Nat} {l : List Nat}, memB t l = false → t ∉ l
  | _, [], _ => by simp
  | t, x :: l, h => by
    simp only [memB_cons] at h
    split at h
    · cases h
    · rename_i hb
      simp only [List.mem_cons, not_or]
      exact ⟨fun e => by subst e; simp at hb, memB_spec h⟩
theorem tmpsOf_mem : ∀ {l : List Operand} {t : Nat}, .tmp t ∈ l → t ∈ tmpsOf l
  | [], _, h => by cases h
  | x :: l, t, h => by
    simp only [List.mem_cons] at h
    rcases h with rfl | h
    · simp [tmpsOf]
    · cases x <;> simp only [tmpsOf]
      · exact List.mem_cons_of_mem _ (tmpsOf_mem h)
      all_goals exact tmpsOf_mem h

theorem looks_exec {ops : Array Oper} {o : Oper} {a' : Act} (hs : ∀ cs b, o.op ≠ .select cs b)
    (he : ∀ t ∈ looks ops.toList o, a'.tmps.getD t undef = a.tmps.getD t undef) : execOp a'.eval o = execOp a.eval o :=
  execOp_congr o hs (fun x hx => by
    cases x with
    | tmp t =>
      simp only [Act.eval]
      exact he t (List.mem_append_right _ (tmpsOf_mem (by simpa using hx)))
    | const _ => rfl
    | global _ => rfl
    | func _ => rfl)
theorem looks_wanted {ops : Array Oper} {o : Oper} {a' : Act} (hsz : a'.tmps.size = a.tmps.size)
    (he : ∀ t ∈ looks ops.toList o, a'.tmps.getD t undef = a.tmps.getD t undef) : Region.wanted o (yielded ops a'.tmps) = Region.wanted o (yielded ops a.tmps) := by
  unfold Region.wanted
  cases hg : o.guard with
  | none => rfl
  | some g =>
    obtain ⟨j, pol⟩ := g
    simp only []
    congr 1
    unfold yielded
    cases hj : ops[j]? with
    | none => simp
    | some oj =>
      cases hd : oj.dst with
      | none => simp [hd]
      | some t =>
        have hm : t ∈ looks ops.toList o := by
          refine List.mem_append_left _ ?_
          simp only [guardTmp, hg, nth_eq, Array.getElem?_toList, hj, hd]
          simp
        have := he t hm
        simp only [Option.bind_some, hd]
        rcases Nat.lt_or_ge t a.tmps.size with hlt | hge
        · have h1 : t < a'.tmps.size := by rw [hsz]; exact hlt
          simp only [Array.getD_eq_getD_getElem?, Array.getElem?_eq_getElem hlt, Array.getElem?_eq_getElem h1, Option.getD_some] at this
          rw [Array.getElem?_eq_getElem hlt, Array.getElem?_eq_getElem h1, this]
        · rw [Array.getElem?_eq_none hge, Array.getElem?_eq_none (by rw [hsz]; exact hge)]

theorem StepX.congr {ops : Array Oper} {o : Oper} {a' : Act} {v : Value} (hs : ∀ cs b, o.op ≠ .select cs b)
    (hsz : a'.tmps.size = a.tmps.size) (he : ∀ t ∈ looks ops.toList o, a'.tmps.getD t undef = a.tmps.getD t undef) (h : StepX P ops o a w v) : StepX P ops o a' w v := by
  intro W hW
  have := h W hW
  unfold StepNow at *
  rw [looks_exec hs he, looks_wanted hsz he]; exact this
theorem StepX.ext {ops : Array Oper} {o : Oper} {v : Value} {w' : World} (h : StepX P ops o a w v) (hx : Ext w [] w') : StepX P ops o a w' v := fun W hW => h W (hx.tr hW)
theorem laysB.congr {o : Oper} {ops : Array Oper} {a' : Act} {mk : Nat → Value} {ob : Obj} (hs : ∀ cs b, o.op ≠ .select cs b)
    (he : ∀ t ∈ looks ops.toList o, a'.tmps.getD t undef = a.tmps.getD t undef) (h : laysB P o a mk ob) : laysB P o a' mk ob := by
  intro W; rw [looks_exec hs he]; exact h W

theorem waitsB_spec : ∀ {j : Nat} {l : List Edge}, waitsB j l = true → ∃ e ∈ l, Region.binds .any e = true ∧ e.on = j
  | _, [], h => by cases h
  | j, e :: l, h => by
    simp only [waitsB] at h
    split at h
    · rename_i hb
      split at h
      · rename_i hj; exact ⟨e, by simp, hb, Nat.eq_of_beq_eq_true hj⟩
      · obtain ⟨e', h1, h2⟩ := waitsB_spec h; exact ⟨e', by simp [h1], h2⟩
    · obtain ⟨e', h1, h2⟩ := waitsB_spec h; exact ⟨e', by simp [h1], h2⟩
theorem edgesB_spec : ∀ {i : Nat} {l : List Edge}, edgesB i l = true → ∀ e ∈ l, Region.binds .any e = true → e.on < i
  | _, [], _, e, he, _ => by cases he
  | i, x :: l, h, e, he, hb => by
    simp only [edgesB] at h
    simp only [List.mem_cons] at he
    split at h
    · split at h
      · rename_i hlt
        rcases he with rfl | he
        · rw [Nat.blt_eq] at hlt; exact hlt
        · exact edgesB_spec h e he hb
      · cases h
    · rename_i hnb
      rcases he with rfl | he
      · rw [hb] at hnb; cases hnb
      · exact edgesB_spec h e he hb
theorem backB_spec : ∀ {k : Nat} {l : List Oper}, backB k l = true → ∀ i o, l[i]? = some o → ∀ e ∈ o.after.toList, Region.binds .any e = true → e.on < k + i
  | _, [], _, i, o, h, _, _, _ => by simp at h
  | k, x :: l, h, i, o, hi, e, he, hb => by
    simp only [backB] at h
    split at h
    · rename_i h1
      cases i with
      | zero => simp at hi; subst hi; exact edgesB_spec h1 e he hb
      | succ i => have := backB_spec h i o (by simpa using hi) e he hb; omega
    · cases h

/-- the set 'x' names operations that any set closed under waiting holds, if it holds what o waits for -/
def Deep (ops : List Oper) (S : Nat → Prop) : Prop := ∀ i o, ops[i]? = some o → S i → ∀ e ∈ o.after.toList, Region.binds .any e = true → S e.on

theorem edgeMask_spec {S : Nat → Prop} {acc : List Nat} (hacc : ∀ i x, acc[i]? = some x → S i → ∀ b, x.testBit b = true → S b) : ∀ {l : List Edge} {s : Nat},
    (∀ e ∈ l, Region.binds .any e = true → S e.on) → (∀ b, s.testBit b = true → S b) → ∀ b, (edgeMask acc l s).testBit b = true → S b
  | [], s, _, hs, b, hb => by simp only [edgeMask] at hb; exact hs b hb
  | e :: l, s, hl, hs, b, hb => by
    simp only [edgeMask] at hb
    split at hb
    · rename_i hbd
      refine edgeMask_spec hacc (fun e' he' => hl e' (by simp [he'])) ?_ b hb
      intro b' hb'
      rw [Nat.testBit_or, Nat.testBit_or, Bool.or_eq_true, Bool.or_eq_true] at hb'
      have hon := hl e (by simp) hbd
      rcases hb' with (h1 | h1) | h1
      · exact hs b' h1
      · rw [Nat.testBit_two_pow] at h1
        simp at h1; subst h1; exact hon
      · split at h1
        · rename_i x hx
          rw [nth_eq] at hx
          exact hacc _ _ hx hon b' h1
        · simp at h1
    · exact edgeMask_spec hacc (fun e' he' => hl e' (by simp [he'])) hs b hb

def GoodAcc (ops : List Oper) (S : Nat → Prop) (acc : List Nat) : Prop := ∀ (i : Nat) (x : Nat) (o : Oper), acc[i]? = some x → ops[i]? = some o → (∀ e ∈ o.after.toList, Region.binds .any e = true → S e.on) → ∀ b, x.testBit b = true → S b

theorem masks_spec {S : Nat → Prop} {ops : List Oper} (hS : Deep ops S) : ∀ {l : List Oper} {acc : List Nat}, (∀ i : Nat, l[i]? = ops[acc.length + i]?) → GoodAcc ops S acc → GoodAcc ops S (masks l acc)
  | [], acc, _, hacc => by simpa [masks] using hacc
  | o' :: l, acc, hl, hacc => by
    simp only [masks]
    have h0 : ops[acc.length]? = some o' := by have := hl 0; simpa using this.symm
    refine masks_spec hS (fun i => ?_) ?_
    · have := hl (i + 1)
      simp only [List.getElem?_cons_succ] at this
      rw [this]; simp; congr 1; omega
    · intro i x o hx ho he b hb
      rcases Nat.lt_or_ge i acc.length with hi | hi
      · rw [List.getElem?_append_left hi] at hx
        exact hacc i x o hx ho he b hb
      · rw [List.getElem?_append_right hi] at hx
        rcases Nat.eq_or_lt_of_le hi with hi' | hi'
        · subst hi'
          simp at hx; subst hx
          rw [h0] at ho; injection ho with ho; subst ho
          refine edgeMask_spec (S := S) (acc := acc) (fun i x hx hSi b hb => ?_) he (by simp) b hb
          have hlt : i < acc.length := (List.getElem?_eq_some_iff.1 hx).1
          have : i < ops.length := by
            have := (List.getElem?_eq_some_iff.1 h0).1; omega
          exact hacc i x _ hx (List.getElem?_eq_getElem this) (fun e he hb => hS i _ (List.getElem?_eq_getElem this) hSi e he hb) b hb
        · rw [List.getElem?_eq_none (by simp; omega)] at hx; cases hx

theorem masks_length : ∀ {l : List Oper} {acc : List Nat}, (masks l acc).length = acc.length + l.length
  | [], acc => by simp [masks]
  | o :: l, acc => by simp only [masks]; rw [masks_length]; simp; omega

theorem count_pos {n : Nat} : ∀ {l : List Bool} {i : Nat}, l[i]? = some false → 0 < l.count false
  | [], i, h => by simp at h
  | b :: l, 0, h => by simp at h; subst h; simp
  | b :: l, i + 1, h => by
    have := count_pos (n := n) (l := l) (i := i) (by simpa using h)
    rw [List.count_cons]; omega
theorem count_set : ∀ {l : List Bool} {i : Nat}, l[i]? = some false → (l.set i true).count false + 1 = l.count false
  | [], i, h => by simp at h
  | b :: l, 0, h => by simp at h; subst h; simp
  | b :: l, i + 1, h => by
    have := count_set (l := l) (i := i) (by simpa using h)
    simp only [List.set_cons_succ, List.count_cons]; omega

theorem apartB_same {d j : Nat} {looks : List Nat} {o : Oper} (h : apartB d j j looks o = true) : d ∉ looks := by
  simp only [apartB, Nat.beq_refl] at h
  split at h
  · cases h
  · rename_i h1; exact memB_spec h1
theorem apartB_ne {d j i : Nat} {looks : List Nat} {o : Oper} (hne : i ≠ j) (h : apartB d j i looks o = true) : o.dst ≠ some d ∧ (d ∈ looks → ∃ e ∈ o.after.toList, Region.binds .any e = true ∧ e.on = j) := by
  have hb : Nat.beq i j = false := by
    cases h' : Nat.beq i j with
    | false => rfl
    | true => exact absurd (Nat.eq_of_beq_eq_true h') hne
  simp only [apartB, hb] at h
  split at h
  · cases h
  · rename_i hd
    refine ⟨fun e => ?_, fun hm => ?_⟩
    · rw [e] at hd; simp at hd
    · split at h
      · rename_i h1; exact absurd hm (memB_spec h1)
      · exact waitsB_spec h
theorem apartRow_spec {all : List Oper} {d j : Nat} : ∀ {i0 : Nat} {l : List Oper}, apartRow all d j i0 l = true → ∀ i o, l[i]? = some o → apartB d j (i0 + i) (looks all o) o = true
  | _, [], _, i, o, h => by simp at h
  | i0, x :: l, h, i, o, hi => by
    simp only [apartRow] at h
    split at h
    · rename_i h1
      cases i with
      | zero => simp at hi; subst hi; exact h1
      | succ i => have := apartRow_spec h i o (by simpa using hi); rw [show i0 + (i + 1) = i0 + 1 + i by omega]; exact this
    · cases h
theorem apartAll_spec {all : List Oper} : ∀ {j0 : Nat} {l : List Oper}, apartAll all j0 l = true → ∀ j o d, l[j]? = some o → o.dst = some d → ∀ i o', all[i]? = some o' → apartB d (j0 + j) i (looks all o') o' = true
  | _, [], _, j, o, d, h, _ => by simp at h
  | j0, x :: l, h, j, o, d, hj, hd => by
    simp only [apartAll] at h
    cases j with
    | zero =>
      simp at hj; subst hj
      simp only [hd] at h
      split at h
      · rename_i h1
        intro i o' hi
        have := apartRow_spec h1 i o' hi
        simpa using this
      · cases h
    | succ j =>
      have hrec : apartAll all (j0 + 1) l = true := by
        split at h
        · split at h
          · exact h
          · cases h
        · exact h
      intro i o' hi
      have := apartAll_spec hrec j o d (by simpa using hj) hd i o' hi
      rw [show j0 + (j + 1) = j0 + 1 + j by omega]; exact this
theorem memB_mem : ∀ {t : Nat} {l : List Nat}, memB t l = true → t ∈ l
  | _, [], h => by cases h
  | t, x :: l, h => by
    simp only [memB_cons] at h
    split at h
    · rename_i hb; rw [Nat.eq_of_beq_eq_true hb]; simp
    · exact List.mem_cons_of_mem _ (memB_mem h)
theorem waitsIn_spec {done : List Nat} : ∀ {l : List Edge}, waitsIn done l = true → ∀ e ∈ l, Region.binds .any e = true → e.on ∈ done
  | [], _, e, he, _ => by cases he
  | x :: l, h, e, he, hb => by
    simp only [waitsIn] at h
    simp only [List.mem_cons] at he
    split at h
    · split at h
      · rename_i hm
        rcases he with rfl | he
        · exact memB_mem hm
        · exact waitsIn_spec h e he hb
      · cases h
    · rename_i hnb
      rcases he with rfl | he
      · rw [hb] at hnb; cases hnb
      · exact waitsIn_spec h e he hb
theorem waitsOut_iff {rest : List Nat} : ∀ {l : List Edge}, waitsOut rest l = true ↔ ∀ e ∈ l, Region.binds .any e = true → e.on ∉ rest
  | [] => by simp [waitsOut]
  | x :: l => by
    simp only [waitsOut]
    split
    · rename_i hb
      split
      · rename_i hm
        constructor
        · intro h; cases h
        · intro h; exact absurd (memB_mem hm) (h x (by simp) hb)
      · rename_i hm
        rw [waitsOut_iff]
        constructor
        · intro h e he hbe
          simp only [List.mem_cons] at he
          rcases he with rfl | he
          · exact memB_spec hm
          · exact h e he hbe
        · intro h e he hbe; exact h e (List.mem_cons_of_mem _ he) hbe
    · rename_i hb
      rw [waitsOut_iff]
      constructor
      · intro h e he hbe
        simp only [List.mem_cons] at he
        rcases he with rfl | he
        · rw [hbe] at hb; cases hb
        · exact h e he hbe
      · intro h e he hbe; exact h e (List.mem_cons_of_mem _ he) hbe
theorem bitB_spec {m j : Nat} : bitB m j = m.testBit j := by
  unfold bitB Nat.testBit
  have h : (m >>> j) &&& 1 = 0 ∨ (m >>> j) &&& 1 = 1 := by
    rw [Nat.and_one_is_mod]; omega
  show Nat.beq ((m >>> j) &&& 1) 1 = _
  rw [Nat.and_comm 1]
  rcases h with h | h <;> rw [h] <;> rfl
theorem bitsIn_spec {m : Nat} : ∀ {l : List Nat}, bitsIn m l = true → ∀ j ∈ l, m.testBit j = true
  | [], _, j, h => by cases h
  | x :: l, h, j, hj => by
    simp only [bitsIn] at h
    simp only [List.mem_cons] at hj
    split at h
    · rename_i hb
      rcases hj with rfl | hj
      · rw [← bitB_spec]; exact hb
      · exact bitsIn_spec h j hj
    · cases h
theorem isF_spec {f : Option Nat} {i : Nat} : isF f i = true ↔ f = some i := by
  unfold isF
  cases f with
  | none => simp
  | some j =>
    simp only [Option.some.injEq]
    constructor
    · exact Nat.eq_of_beq_eq_true
    · rintro rfl; simp

/-- the plan holds -/
def PlanP (ops : Array Oper) (f : Option Nat) : List Nat → List Nat → List Nat → Prop
  | [], _, _ => True
  | i :: l, done, ne => ∃ o m, ops[i]? = some o ∧ (masks ops.toList [])[i]? = some m ∧ i ∉ done ∧ (∀ e ∈ o.after.toList, Region.binds .any e = true → e.on ∈ done) ∧
      (f ≠ some i → ∀ j ∈ ne, m.testBit j = true) ∧ (f = some i → (cls o).isA = true) ∧ PlanP ops f l (i :: done) (if (cls o).isQ then ne else i :: ne)

theorem planB_spec {ops : Array Oper} {f : Option Nat} : ∀ {l done ne : List Nat}, planB ops.toList (masks ops.toList []) f l done ne = true → PlanP ops f l done ne
  | [], _, _, _ => trivial
  | i :: l, done, ne, h => by
    simp only [planB] at h
    split at h <;> try (cases h; done)
    rename_i o ho
    rw [nth_eq, Array.getElem?_toList] at ho
    split at h <;> try (cases h; done)
    rename_i m hm
    rw [nth_eq] at hm
    split at h <;> try (cases h; done)
    rename_i hd
    split at h <;> try (cases h; done)
    rename_i hw
    have hw' := waitsIn_spec hw
    have hd' := memB_spec hd
    split at h
    · rename_i hc
      split at h <;> try (cases h; done)
      rename_i hf
      split at h <;> try (cases h; done)
      rename_i hb
      split at h <;> try (cases h; done)
      have hq : f = some i → (cls o).isA = true := fun e => by rw [isF_spec.2 e] at hf; cases hf
      exact ⟨o, m, ho, hm, hd', hw', fun _ => bitsIn_spec hb, hq, by simp only [hc, PC.isQ, if_true]; exact planB_spec h⟩
    · rename_i hc
      split at h <;> try (cases h; done)
      split at h
      · rename_i hf
        exact ⟨o, m, ho, hm, hd', hw', fun hne => absurd (isF_spec.1 hf) hne, fun _ => by simp [hc, PC.isA], by simp only [hc, PC.isQ]; exact planB_spec h⟩
      · split at h <;> try (cases h; done)
        rename_i hb
        exact ⟨o, m, ho, hm, hd', hw', fun _ => bitsIn_spec hb, fun _ => by simp [hc, PC.isA], by simp only [hc, PC.isQ]; exact planB_spec h⟩
    · rename_i hc
      split at h <;> try (cases h; done)
      rename_i hf
      split at h <;> try (cases h; done)
      rename_i hb
      exact ⟨o, m, ho, hm, hd', hw', fun _ => bitsIn_spec hb, (fun e => by rw [isF_spec.2 e] at hf; cases hf), by simp only [hc, PC.isQ]; exact planB_spec h⟩
theorem coverB_spec {plan : List Nat} : ∀ {n : Nat}, coverB plan n = true → ∀ i, i < n → i ∈ plan
  | 0, _, i, h => by omega
  | n + 1, h, i, hi => by
    simp only [coverB] at h
    split at h
    · rename_i hm
      rcases Nat.lt_succ_iff_lt_or_eq.1 hi with h1 | rfl
      · exact coverB_spec h i h1
      · exact memB_mem hm
    · cases h
theorem selB_spec : ∀ {l : List Oper}, selB l = true → ∀ (i : Nat) (o : Oper), l[i]? = some o → ∀ cs b, o.op ≠ Op.select cs b
  | [], _, i, o, h => by simp at h
  | x :: l, h, i, o, hi => by
    simp only [selB] at h
    split at h
    · cases h
    · rename_i hn
      cases i with
      | zero => simp at hi; subst hi; exact fun cs b e => hn _ _ e
      | succ i => exact selB_spec h i o (by simpa using hi)
theorem ready_spec {ops : Array Oper} {listed : Array Bool} {i : Nat} (h : i ∈ Region.ready .any ops listed) : i < ops.size ∧ listed.getD i true = false ∧ ∃ o, ops[i]? = some o ∧ ∀ e ∈ o.after.toList, Region.binds .any e = true → listed.getD e.on false = true := by
  obtain ⟨h1, o, h2, h3⟩ := mem_ready.1 h
  exact ⟨(Array.getElem?_eq_some_iff.1 h2).1, h1, o, h2, fun e he hb => h3 e (by simpa using he) hb⟩

theorem getD_tf {listed : Array Bool} {i : Nat} (h : listed.getD i true = false) : listed.getD i false = false ∧ listed[i]? = some false := by
  rw [Array.getD_eq_getD_getElem?] at h ⊢
  cases h' : listed[i]? with
  | none => simp [h'] at h
  | some b => simp [h'] at h ⊢; exact h
theorem getD_ft {listed : Array Bool} {i : Nat} (hi : i < listed.size) (h : listed.getD i false = false) : listed.getD i true = false := by
  rw [Array.getD_eq_getD_getElem?, Array.getElem?_eq_getElem hi] at h ⊢
  simpa using h
theorem getD_set' (listed : Array Bool) (i j : Nat) (hi : i < listed.size) : (listed.setIfInBounds i true).getD j false = (if j = i then true else listed.getD j false) := by
  by_cases h : j = i
  · subst h; simp [hi]
  · rw [if_neg h, Array.getD_eq_getD_getElem?, Array.getD_eq_getD_getElem?, Array.getElem?_setIfInBounds_ne (fun e => h e.symm)]

theorem act_ext {a b : Act} (h1 : a.tmps.size = b.tmps.size) (h2 : ∀ t, a.tmps.getD t undef = b.tmps.getD t undef) (h3 : a.defers = b.defers) : a = b := by
  obtain ⟨x, d⟩ := a
  obtain ⟨y, e⟩ := b
  simp only at h1 h2 h3
  subst h3
  congr 1
  apply Array.ext h1
  intro i hi hj
  have := h2 i
  simpa [Array.getD_eq_getD_getElem?, Array.getElem?_eq_getElem hi, Array.getElem?_eq_getElem hj] using this

theorem least_unlisted {listed : Array Bool} : ∀ (m : Nat), (∀ j, j < m → listed.getD j false = true) ∨ ∃ j, j < m ∧ listed.getD j false = false ∧ ∀ i, i < j → listed.getD i false = true
  | 0 => .inl (fun j h => by omega)
  | m + 1 => by
    rcases least_unlisted m with h | ⟨j, h1, h2, h3⟩
    · cases hm : listed.getD m false with
      | true => exact .inl (fun j hj => by
          rcases Nat.lt_succ_iff_lt_or_eq.1 hj with h' | h'
          · exact h j h'
          · subst h'; exact hm)
      | false => exact .inr ⟨m, by omega, hm, h⟩
    · exact .inr ⟨j, by omega, h2, h3⟩

end
end Go.Vd
