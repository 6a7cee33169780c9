/-  The evaluator is sound, part 2: each operation. -/
import Derived.Test.YtkdjikplcliijaaGreatV1
namespace Go.Vd
section
variable {P : Program} {T : BT} {base : World} {F : List Nat} {env : Env} {hp : Hp} {vs : List MV} {a : Act} {w : World}

theorem mapM_at : ∀ {fs : List Field} {offs : List (Nat × Nat)}, fs.mapM (fun f => (P.info? f.type).map fun i => (f.offset, i.size)) = some offs →
    ∀ {j o s : Nat}, offs[j]? = some (o, s) → ∃ f i, fs[j]? = some f ∧ f.offset = o ∧ P.info? f.type = some i ∧ i.size = s
  | [], offs, h, j, o, s, hj => by simp at h; subst h; simp at hj
  | f :: fs, offs, h, j, o, s, hj => by
    simp only [List.mapM_cons, Option.bind_eq_bind, Option.pure_def] at h
    cases hi : P.info? f.type with
    | none => simp [hi] at h
    | some i =>
      cases hr : fs.mapM (fun f => (P.info? f.type).map fun i => (f.offset, i.size)) with
      | none => simp [hi, hr] at h
      | some rest =>
        simp [hi, hr] at h
        subst h
        cases j with
        | zero => simp at hj; exact ⟨f, i, by simp, hj.1, hi, hj.2⟩
        | succ j => simpa using mapM_at hr (by simpa using hj)

theorem addO_eq {a b q : Nat} (h : addO a b = some q) : q = a + b := by
  unfold addO at h
  split at h
  · rename_i h0
    have := Nat.eq_of_beq_eq_true h0
    injection h with h; omega
  · split at h
    · rename_i h0
      have := Nat.eq_of_beq_eq_true h0
      injection h with h; omega
    · injection h with h; omega

theorem fieldSV_run (hT : T.All (TiOk P)) {t : TypeId} {x v : SV} {f : Nat} {sd : List Sd} (h : fieldSV T t x f = .val v sd) :
    (Instr.fieldAt t x.den f).run P w = .ok v.den w := by
  unfold fieldSV at h
  split at h
  · rename_i ti hti
    have ht := hT.find hti
    obtain ⟨d, i, z, hu, hi, hsz, _, _, hagg, hk, _⟩ := ht.ex
    split at h
    · rename_i offs hkind
      rw [hkind] at hk
      obtain ⟨fs, rfl, hm, hnz⟩ := hk
      split at h
      · rename_i o sz hno
        rw [nth_eq] at hno
        obtain ⟨fd, fi, hf1, hf2, hf3, hf4⟩ := mapM_at hm hno
        have hne : fi.size ≠ 0 := by rw [hf4]; exact hnz _ (List.mem_of_getElem? hno)
        have hf1' : fs[f]? = some fd := by rw [← Array.getElem?_toList]; exact hf1
        have hs : (sizeOf fd.type).run P w = .ok fi.size w := by rw [run_sizeOf w hf3, cellsOf_info hf3]
        split at h
        · split at h <;> try (cases h; done)
          rename_i q hq
          have hq := addO_eq hq; subst hq
          injection h with h1 h2; subst h1
          simp [Instr.fieldAt, run_underlying hu, hf1', Instr.sureAddr, fieldPlace, hs, hne, SV.den, hf2, add_plain]
        · rename_i ad c ix off
          split at h <;> try (cases h; done)
          rename_i q hq
          have hq := addO_eq hq; subst hq
          injection h with h1 h2; subst h1
          have e : (ad.add off).add o = ad.add (off + o) := by
            unfold Addr.add
            split <;> split <;> (try split) <;> simp_all <;> omega
          simp [Instr.fieldAt, run_underlying hu, hf1', Instr.sureAddr, fieldPlace, hs, hne, SV.den, hf2, e]
        · cases h
      · cases h
    · cases h
  · cases h

theorem indexSV_run (hT : T.All (TiOk P)) {t : TypeId} {x i v : SV} {sd : List Sd} (h : indexSV T t x i = .val v sd) (hs : All sd) :
    (Instr.indexAt t x.den i.den).run P w = .ok v.den w := by
  unfold indexSV at h
  split at h
  · rename_i ti hti
    have ht := hT.find hti
    obtain ⟨d, inf, z, hu, hi, hsz, _, _, hagg, hk, _⟩ := ht.ex
    split at h
    · rename_i es et hkind
      rw [hkind] at hk
      obtain ⟨rfl, he⟩ := hk
      obtain ⟨ie, hie, hes⟩ := Option.map_eq_some_iff.1 he
      have hsz : (sizeOf et).run P w = .ok es w := by rw [run_sizeOf w hie, cellsOf_info hie, hes]
      split at h
      · rename_i A c len cp k n
        injection h with h1 h2; subst h1; subst h2
        obtain ⟨⟨h0, h1⟩, hA, _⟩ := hs
        obtain ⟨ad, rfl⟩ := Option.isSome_iff_exists.1 hA
        simp [Instr.indexAt, asIntOf, run_underlying hu, SV.den, h0, h1, hsz, Addr.add]
      · rename_i bk c off len ex k m
        split at h
        · rename_i hb
          split at h <;> try (cases h; done)
          rename_i q hq
          have hq := addO_eq hq; subst hq
          injection h with h1 h2; subst h1; subst h2
          have hb' : m < len := by rw [Nat.blt_eq] at hb; exact hb
          simp [Instr.indexAt, asIntOf, run_underlying hu, SV.den, hb', hsz, add_plain]
        · cases h
      · cases h
    · rename_i len es one hkind
      rw [hkind] at hk
      obtain ⟨e, rfl, he, _⟩ := hk
      obtain ⟨ie, hie, hes⟩ := Option.map_eq_some_iff.1 he
      have hsz : (sizeOf e).run P w = .ok es w := by rw [run_sizeOf w hie, cellsOf_info hie, hes]
      split at h
      · rename_i bk c off k m
        split at h
        · rename_i hb
          split at h <;> try (cases h; done)
          rename_i q hq
          have hq := addO_eq hq; subst hq
          injection h with h1 h2; subst h1; subst h2
          have hb' : m < len := by rw [Nat.blt_eq] at hb; exact hb
          simp [Instr.indexAt, asIntOf, run_underlying hu, SV.den, hb', hsz, add_plain, Instr.sureAddr]
        · cases h
      · cases h
    · cases h
  · cases h

theorem asB_den {x : SV} {b : Bool} (h : x.asB = some b) : x.den = .bool b := by
  unfold SV.asB at h
  split at h <;> first | (injection h with h; subst h; rfl) | cases h

theorem run_pickB (a : Act) (c x y : Operand) (p : Bool) (hc : a.eval c = .bool p) (o : Oper) (ho : o.op = .pick c x y) :
    (execOp a.eval o).run P w = .ok (.value (if p then a.eval x else a.eval y)) w := by
  cases p <;> simp [execOp, ho, hc, asBool]

theorem evPick_run {a : Act} {o : Oper} {c x y : Operand} {c' x' y' v : SV} (hc : a.eval c = c'.den) (hx : a.eval x = x'.den) (hy : a.eval y = y'.den)
    (h : evPick c' x' y' = some v) (hq : ∀ p q, pickEq c' x' y' = some (p, q) → p = q) (ho : o.op = .pick c x y) :
    (execOp a.eval o).run P w = .ok (.value v.den) w := by
  unfold evPick at h
  split at h
  · injection h with h; subst h
    rw [run_pickB a c x y true hc o ho]; simp [hx]
  · injection h with h; subst h
    rw [run_pickB a c x y false hc o ho]; simp [hy]
  · rename_i p
    rw [run_pickB a c x y p hc o ho]
    split at h
    · rename_i j pol q z
      have hpq := hq p q rfl
      subst hpq
      split at h
      · split at h
        · rename_i u v' hu hv
          have hzd := asB_den hu
          have hyd := asB_den hv
          split at h <;> injection h with h <;> subst h <;> cases p <;> simp_all [SV.den, SV.asB]
        · cases h
      · cases h
    · rename_i j pol q z hnx
      have hpq := hq p q (by cases x' <;> first | rfl | exact (hnx _ _ _ _ rfl).elim)
      subst hpq
      split at h
      · split at h
        · rename_i u v' hu hv
          have hzd := asB_den hu
          have hyd := asB_den hv
          split at h <;> injection h with h <;> subst h <;> cases p <;> simp_all [SV.den, SV.asB]
        · cases h
      · cases h
    · split at h
      · rename_i u v' hu hv
        injection h with h; subst h
        have hzd := asB_den hu
        have hyd := asB_den hv
        cases p <;> simp [hx, hy, SV.den, hzd, hyd]
      · cases h
  · cases h

/-! ### Operators -/
theorem notSV_run {x v : SV} (h : notSV x = some v) : (Op.unary .not x.den).run P w = .ok v.den w := by
  unfold notSV at h
  split at h <;> first | (injection h with h; subst h; simp [Op.unary, SV.den]) | cases h
theorem notSV_not {x v : SV} (h : notSV x = some v) : ∃ q, x.den = .bool q ∧ v.den = .bool (!q) := by
  unfold notSV at h
  split at h <;> first | (injection h with h; subst h; exact ⟨_, rfl, rfl⟩) | cases h

theorem intBin_run {op : BinOp} {k : IntKind} {x y : Int} {v : SV} {t : TypeId} (h1 : op ≠ .shl) (h2 : op ≠ .shr) (h : intBin op k x y = some v) : (binOp op t (.int k x) (.int k y)).run P w = .ok v.den w := by
  unfold intBin at h
  cases op <;> simp only [] at h <;> try (first | (exact absurd rfl h1) | (exact absurd rfl h2))
  all_goals first
    | (injection h with h; subst h; simp [binOp, Op.intCmp, Op.intArith, Op.intBits, bitsI, SV.den]; done)
    | (split at h
       · injection h with h; subst h
         simp [binOp, Op.intDiv, SV.den]
         intro hh; omega
       · cases h)
theorem eqGuard_skip {op : BinOp} {t : TypeId} {x y : Operand} {u v : Value} (h : op ≠ .eql ∧ op ≠ .neq) : (eqGuard op t x y u v).run P w = .ok () w := by
  unfold eqGuard
  cases op <;> simp_all
theorem eqGuard_plain {op : BinOp} {t : TypeId} {x y : Operand} {u v : Value} (h1 : ¬ (u = .nilIface ∧ v = .nilIface)) (h2 : ∀ l m, ¬ (u = .agg l ∧ v = .agg m)) : (eqGuard op t x y u v).run P w = .ok () w := by
  unfold eqGuard
  cases op <;> first
    | (simp; done)
    | (simp
       split
       · exact absurd ⟨rfl, rfl⟩ h1
       · exact absurd ⟨rfl, rfl⟩ (h2 _ _)
       · simp)
theorem eqGuard_flat {op : BinOp} {t : TypeId} {x y : Operand} {l m : Array Value} (h : P.eqGuardType P.depth t = false) : (eqGuard op t x y (.agg l) (.agg m)).run P w = .ok () w := by
  unfold eqGuard
  cases op <;> first
    | (simp; done)
    | (simp [program, Sem.run, h])


theorem eqCells_len : ∀ {l m : List SV} {r : Bool}, eqCells l m = some r → l.length = m.length
  | [], [], _, _ => rfl
  | [], _ :: _, _, h => by simp [eqCells] at h
  | x :: l, [], _, h => by cases x <;> simp [eqCells] at h
  | x :: l, y :: m, r, h => by
    cases x <;> cases y <;> simp only [eqCells] at h <;> try (cases h; done)
    split at h
    · split at h
      · rename_i q hq; simp [eqCells_len hq]
      · cases h
    · cases h
theorem eqCells_app : ∀ {l1 m1 l2 m2 : List SV} {r : Bool}, l1.length = m1.length → eqCells (l1 ++ l2) (m1 ++ m2) = some r → ∃ r1 r2, eqCells l1 m1 = some r1 ∧ eqCells l2 m2 = some r2 ∧ r = (r1 && r2)
  | [], [], l2, m2, r, _, h => ⟨true, r, rfl, h, by simp⟩
  | [], _ :: _, _, _, _, hl, _ => by simp at hl
  | _ :: _, [], _, _, _, hl, _ => by simp at hl
  | x :: l1, y :: m1, l2, m2, r, hl, h => by
    cases x <;> cases y <;> simp only [eqCells, List.cons_append] at h ⊢ <;> try (cases h; done)
    rename_i k1 n1 k2 n2
    split at h
    · rename_i hk
      split at h
      · rename_i q hq
        injection h with h; subst h
        obtain ⟨r1, r2, h1, h2, h3⟩ := eqCells_app (by simpa using hl) hq
        exact ⟨n1 == n2 && r1, r2, by simp [h1], h2, by rw [h3, Bool.and_assoc]⟩
      · cases h
    · cases h

/-- a value of a type out of its cells -/
def ofCells (P : Program) (t : TypeId) (cs : List Value) : Value :=
  match P.underlying t with
  | some (.struct _) | some (.array ..) => .agg cs.toArray
  | _ => cs.getD 0 undef

def aggD : TypeDesc → Bool
  | .struct _ | .array .. => true
  | _ => false
theorem isAgg_run {t : TypeId} {d : TypeDesc} (hu : P.underlying t = some d) : (isAgg t).run P w = .ok (aggD d) w := by
  unfold isAgg; simp [run_underlying hu]; cases d <;> simp [aggD]
theorem ofCells_agg {t : TypeId} {d : TypeDesc} (hu : P.underlying t = some d) (h : aggD d = true) (cs : List Value) : ofCells P t cs = .agg cs.toArray := by
  unfold ofCells; rw [hu]; cases d <;> simp_all [aggD]
theorem ofCells_one {t : TypeId} {d : TypeDesc} (hu : P.underlying t = some d) (h : aggD d = false) (cs : List Value) : ofCells P t cs = cs.getD 0 undef := by
  unfold ofCells; rw [hu]; cases d <;> simp_all [aggD]
theorem part_run {t : TypeId} {i : TypeInfo} (hi : P.info? t = some i) {d : TypeDesc} (hu : P.underlying t = some d) {cs : List Value} {off : Nat} (h : off + P.cellsOf t ≤ cs.length) (h1 : aggD d = false → P.cellsOf t = 1) :
    (part t cs.toArray off).run P w = .ok (ofCells P t ((cs.drop off).take (P.cellsOf t))) w := by
  have hs : (sizeOf t).run P w = .ok (P.cellsOf t) w := run_sizeOf w hi
  have hag := isAgg_run (w := w) hu
  cases ha : aggD d with
  | true =>
    rw [ofCells_agg hu ha]
    simp [part, hag, ha, hs]
    try (rw [List.extract_eq_take_drop]; congr 1; omega)
  | false =>
    have h1' := h1 ha
    rw [ofCells_one hu ha]
    have hlt : off < cs.length := by omega
    simp [part, hag, ha, h1', hlt]

theorem flat_eq (n : Nat) : ∀ (t : TypeId), flatB P n t = true → ∀ (dd : Nat) (l m : List SV) (r : Bool), l.length = P.cellsOf t → eqCells l m = some r →
    (Op.equalIn (n + dd) t (ofCells P t (SV.dens l)) (ofCells P t (SV.dens m))).run P w = .ok r w := by
  induction n with
  | zero => intro t h; simp [flatB] at h
  | succ n ih =>
    intro t h dd l m r hl he
    simp only [flatB] at h
    split at h
    · rename_i k hu
      have hc : P.cellsOf t = 1 := by simpa using h
      rw [hc] at hl
      have hlm := eqCells_len he
      match l, m, hl, hlm with
      | [x], [y], _, _ =>
        cases x <;> cases y <;> simp only [eqCells] at he <;> try (cases he; done)
        split at he
        · rename_i hk
          injection he with he; subst he
          have hk' := of_decide_eq_true hk
          subst hk'
          rw [show n + 1 + dd = (n + dd) + 1 by omega]
          simp [ofCells, hu, SV.dens, SV.den]
          rw [run_equalIn_int w (n + dd) t _ k _ _ hu]
        · cases he
    · rename_i fs hu
      simp only [Bool.and_eq_true, Bool.not_eq_true'] at h
      obtain ⟨hst, hgo⟩ := h
      have hf : P.fieldsOf t = fs := by simp [Program.fieldsOf, hu]
      rw [show n + 1 + dd = (n + dd) + 1 by omega]
      have e1 : ∀ x : List SV, ofCells P t (SV.dens x) = .agg (SV.dens x).toArray := fun x => by simp [ofCells, hu]
      rw [e1, e1, run_equalIn_struct (P := P) w (n + dd) t _ _ (by rw [hf]; exact hu) hst, hf]
      have key : ∀ (fl : List Field) (off : Nat) (l0 m0 : List SV) (l' m' : List SV) (r : Bool), flatGo P (flatB P n) (P.cellsOf t) fl off = true → l = l0 ++ l' → m = m0 ++ m' → l0.length = off → m0.length = off →
          eqCells l' m' = some r → (Op.eqFields (n + dd) (SV.dens l).toArray (SV.dens m).toArray fl).run P w = .ok r w := by
        intro fl
        induction fl with
        | nil =>
          intro off l0 m0 l' m' r hgo h1 h2 h3 h4 he
          simp [flatGo] at hgo
          have : l' = [] := List.eq_nil_of_length_eq_zero (by rw [h1] at hl; simp at hl; omega)
          subst this
          have hm0 := eqCells_len he
          have : m' = [] := List.eq_nil_of_length_eq_zero (by simpa using hm0.symm)
          subst this
          simp [eqCells] at he; subst he
          simp [Op.eqFields]
        | cons f fl ihf =>
          intro off l0 m0 l' m' r hgo h1 h2 h3 h4 he
          simp only [flatGo, Bool.and_eq_true] at hgo
          obtain ⟨⟨⟨⟨hn, ho⟩, hi⟩, hfl⟩, hrest⟩ := hgo
          have ho : f.offset = off := by simpa using ho
          have hn' : f.name ≠ "_" := by simpa using hn
          obtain ⟨i, hi⟩ := Option.isSome_iff_exists.1 hi
          have hbound : ∀ (fl : List Field) (o : Nat), flatGo P (flatB P n) (P.cellsOf t) fl o = true → o ≤ P.cellsOf t := by
            intro fl
            induction fl with
            | nil => intro o h; simp [flatGo] at h; omega
            | cons g gl ihg => intro o h; simp only [flatGo, Bool.and_eq_true] at h; have := ihg _ h.2; omega
          have hb := hbound _ _ hrest
          have hlm := eqCells_len he
          have hl1 : off + P.cellsOf f.type ≤ l.length := by omega
          have hm1 : off + P.cellsOf f.type ≤ m.length := by rw [h2]; rw [h1] at hl1; simp at hl1 ⊢; omega
          have hlen' : P.cellsOf f.type ≤ l'.length := by rw [h1] at hl1; simp at hl1; omega
          have hsplit : eqCells (l'.take (P.cellsOf f.type) ++ l'.drop (P.cellsOf f.type)) (m'.take (P.cellsOf f.type) ++ m'.drop (P.cellsOf f.type)) = some r := by simpa using he
          obtain ⟨r1, r2, g1, g2, g3⟩ := eqCells_app (by simp; omega) hsplit
          have hex : ∃ d, P.underlying f.type = some d ∧ (aggD d = false → P.cellsOf f.type = 1) := by
            cases n with
            | zero => simp [flatB] at hfl
            | succ n =>
              simp only [flatB] at hfl
              split at hfl
              · rename_i k hk; exact ⟨_, hk, fun _ => by simpa using hfl⟩
              · rename_i fs' hk; exact ⟨_, hk, fun h => by simp [aggD] at h⟩
              · cases hfl
          obtain ⟨d, hd, hd2⟩ := hex
          have p1 := part_run (w := w) hi hd (cs := SV.dens l) (off := off) (by rw [dens_length]; exact hl1) hd2
          have p2 := part_run (w := w) hi hd (cs := SV.dens m) (off := off) (by rw [dens_length]; exact hm1) hd2
          have q1 : ((SV.dens l).drop off).take (P.cellsOf f.type) = SV.dens (l'.take (P.cellsOf f.type)) := by
            rw [h1, dens_map, dens_map, List.map_append, List.drop_append_of_le_length (by simp; omega), List.drop_of_length_le (by simp; omega)]; simp [List.map_take]
          have q2 : ((SV.dens m).drop off).take (P.cellsOf f.type) = SV.dens (m'.take (P.cellsOf f.type)) := by
            rw [h2, dens_map, dens_map, List.map_append, List.drop_append_of_le_length (by simp; omega), List.drop_of_length_le (by simp; omega)]; simp [List.map_take]
          rw [q1] at p1; rw [q2] at p2
          have e := ih f.type hfl dd _ _ r1 (by simp; omega) g1
          have hr := ihf (off + P.cellsOf f.type) (l0 ++ l'.take (P.cellsOf f.type)) (m0 ++ m'.take (P.cellsOf f.type)) (l'.drop (P.cellsOf f.type)) (m'.drop (P.cellsOf f.type)) r2 hrest (by rw [h1]; simp) (by rw [h2]; simp) (by simp; omega) (by simp; omega) g2
          simp only [Op.eqFields, if_pos hn', Sem.run_bind, ho, p1, p2, e, Result.andThen_ok]
          cases r1
          · simp [g3]
          · simp [g3, hr]
      exact key fs.toList 0 [] [] l m r hgo rfl rfl rfl rfl he
    · cases h

theorem isPtr_spec (hT : T.All (TiOk P)) {t : TypeId} (h : isPtr T t = true) : ∃ e, P.underlying t = some (.pointer e) := by
  unfold isPtr at h
  split at h
  · rename_i ti hti
    obtain ⟨d, i, z, hu, _, _, _, _, _, hk, _⟩ := (hT.find hti).ex
    split at h
    · rename_i hkind; rw [hkind] at hk; obtain ⟨e, rfl⟩ := hk; exact ⟨e, hu⟩
    · cases h
  · cases h
theorem isSl_spec (hT : T.All (TiOk P)) {t : TypeId} (h : isSl T t = true) : ∃ e, P.underlying t = some (.slice e) := by
  unfold isSl at h
  split at h
  · rename_i ti hti
    obtain ⟨d, i, z, hu, _, _, _, _, _, hk, _⟩ := (hT.find hti).ex
    split at h
    · rename_i hkind; rw [hkind] at hk; obtain ⟨rfl, _⟩ := hk; exact ⟨_, hu⟩
    · cases h
  · cases h
theorem isMap_spec (hT : T.All (TiOk P)) {t : TypeId} (h : isMap T t = true) : ∃ k e, P.underlying t = some (.map k e) := by
  unfold isMap at h
  split at h
  · rename_i ti hti
    obtain ⟨d, i, z, hu, _, _, _, _, _, hk, _⟩ := (hT.find hti).ex
    split at h
    · rename_i hkind; rw [hkind] at hk; have hk : d = .map _ _ := hk; subst hk; exact ⟨_, _, hu⟩
    · cases h
  · cases h
theorem isStr_spec (hT : T.All (TiOk P)) {t : TypeId} (h : isStr T t = true) : P.underlying t = some .string := by
  unfold isStr at h
  split at h
  · rename_i ti hti
    obtain ⟨d, i, z, hu, _, _, _, _, _, hk, _⟩ := (hT.find hti).ex
    split at h
    · rename_i hkind; rw [hkind] at hk; have hk : d = .string := hk; rw [← hk]; exact hu
    · cases h
  · cases h
theorem isBl_spec (hT : T.All (TiOk P)) {t : TypeId} (h : isBl T t = true) : P.underlying t = some .bool := by
  unfold isBl at h
  split at h
  · rename_i ti hti
    obtain ⟨d, i, z, hu, _, _, _, _, _, hk, _⟩ := (hT.find hti).ex
    split at h
    · rename_i hkind; rw [hkind] at hk; rw [← hk]; exact hu
    · cases h
  · cases h
theorem nilOf_spec {y : SV} {b : Bool} (h : y.nilOf = some b) : ∃ o, y.den = .pointer o ∧ b = o.isNone := by
  unfold SV.nilOf at h
  split at h <;> first | (injection h with h; subst h; exact ⟨_, rfl, rfl⟩) | cases h
theorem nilSl_spec {y : SV} {b : Bool} (h : y.nilSl = some b) : ∃ o n c, y.den = .slice o n c ∧ b = o.isNone := by
  unfold SV.nilSl at h
  split at h <;> first | (injection h with h; subst h; exact ⟨_, _, _, rfl, rfl⟩) | cases h

theorem eq_nil_l (d : Nat) {t e : TypeId} (hu : P.underlying t = some (.pointer e)) (o : Option Addr) : (Op.equalIn (d + 1) t (.pointer none) (.pointer o)).run P w = .ok o.isNone w := by
  simp [Op.equalIn, run_underlying hu]
theorem eq_nil_r (d : Nat) {t e : TypeId} (hu : P.underlying t = some (.pointer e)) (o : Option Addr) : (Op.equalIn (d + 1) t (.pointer o) (.pointer none)).run P w = .ok o.isNone w := by
  cases o <;> simp [Op.equalIn, run_underlying hu]
theorem eq_nils_l (d : Nat) {t e : TypeId} (hu : P.underlying t = some (.slice e)) (o : Option Addr) (n c : Nat) : (Op.equalIn (d + 1) t (.slice none 0 0) (.slice o n c)).run P w = .ok o.isNone w := by
  simp [Op.equalIn, run_underlying hu]
theorem eq_nils_r (d : Nat) {t e : TypeId} (hu : P.underlying t = some (.slice e)) (o : Option Addr) (n c : Nat) : (Op.equalIn (d + 1) t (.slice o n c) (.slice none 0 0)).run P w = .ok o.isNone w := by
  cases o <;> simp [Op.equalIn, run_underlying hu]
theorem eq_map (d : Nat) {t k e : TypeId} (hu : P.underlying t = some (.map k e)) (b : Nat) : (Op.equalIn (d + 1) t (.map (some b)) (.map none)).run P w = .ok false w := by
  simp [Op.equalIn, run_underlying hu]
theorem eq_bool (d : Nat) {t : TypeId} (hu : P.underlying t = some .bool) (p q : Bool) : (Op.equalIn (d + 1) t (.bool p) (.bool q)).run P w = .ok (p == q) w := by
  simp [Op.equalIn, run_underlying hu]
theorem equal_eq (t : TypeId) (x y : Value) : Op.equal t x y = Op.equalIn (9999 + 1) t x y := rfl

inductive Cmp : Value → Value → Prop
  | ptr (o o' : Option Addr) : Cmp (.pointer o) (.pointer o')
  | sl (o : Option Addr) (n c : Nat) (o' : Option Addr) (n' c' : Nat) : Cmp (.slice o n c) (.slice o' n' c')
  | bo (p q : Bool) : Cmp (.bool p) (.bool q)
  | agg (l m : Array Value) : Cmp (.agg l) (.agg m)
  | map (a b : Option Nat) : Cmp (.map a) (.map b)
theorem Cmp.eql {u v : Value} (h : Cmp u v) (t : TypeId) : binOp .eql t u v = (do pure (.bool (← Op.equal t u v))) := by cases h <;> rfl
theorem Cmp.neq {u v : Value} (h : Cmp u v) (t : TypeId) : binOp .neq t u v = (do pure (.bool (!(← Op.equal t u v)))) := by cases h <;> rfl

theorem eqSV_run (hT : T.All (TiOk P)) {t : TypeId} {x y v : SV} (h : eqSV T t x y = some v) (op : BinOp) (ox oy : Operand) (w : World) :
    ∃ b, (Op.equal t x.den y.den).run P w = .ok b w ∧ v.den = .bool b ∧ (eqGuard op t ox oy x.den y.den).run P w = .ok () w ∧ Cmp x.den y.den := by
  unfold eqSV at h
  rw [equal_eq]
  split at h
  · rename_i l m
    split at h
    · rename_i ti hti
      split at h
      · rename_i hfl
        simp only [Bool.and_eq_true] at hfl
        obtain ⟨hfl, hlen⟩ := hfl
        have hlen := Nat.eq_of_beq_eq_true hlen
        split at h
        · rename_i r hr
          injection h with h; subst h
          have ht := hT.find hti
          obtain ⟨hF, ⟨fs, hst⟩, hG⟩ := ht.flat hfl
          obtain ⟨d, i, z, hu, hi, hsz, _, _, _, _, _⟩ := ht.ex
          refine ⟨r, ?_, rfl, eqGuard_flat hG, .agg _ _⟩
          have := flat_eq (w := w) 6 t hF 9994 l m r (by rw [hlen, cellsOf_info hi, hsz]) hr
          simpa only [ofCells, hst, SV.den] using this
        · cases h
      · cases h
    · cases h
  · rename_i p q
    split at h
    · rename_i hb
      injection h with h; subst h
      exact ⟨p == q, eq_bool _ (isBl_spec hT hb) p q, rfl, eqGuard_plain (by simp [SV.den]) (by simp [SV.den]), .bo _ _⟩
    · cases h
  · split at h
    · rename_i hb
      injection h with h; subst h
      obtain ⟨k, e, hu⟩ := isMap_spec hT hb
      exact ⟨false, eq_map _ hu _, rfl, eqGuard_plain (by simp [SV.den]) (by simp [SV.den]), .map _ _⟩
    · cases h
  · split at h
    · rename_i hb
      obtain ⟨e, hu⟩ := isPtr_spec hT hb
      split at h <;> first | cases h | skip
      all_goals (rename_i hn; obtain ⟨o, ho, hob⟩ := nilOf_spec hn; exact ⟨o.isNone, by rw [ho]; exact eq_nil_l _ hu o, by rw [← hob]; rfl, eqGuard_plain (by simp [SV.den]) (by simp [SV.den]), by rw [ho]; exact .ptr _ _⟩)
    · cases h
  · split at h
    · rename_i hb
      obtain ⟨e, hu⟩ := isPtr_spec hT hb
      split at h <;> first | cases h | skip
      all_goals (rename_i hn; obtain ⟨o, ho, hob⟩ := nilOf_spec hn; exact ⟨o.isNone, by rw [ho]; exact eq_nil_r _ hu o, by rw [← hob]; rfl, eqGuard_plain (by simp [SV.den]) (by simp [SV.den]), by rw [ho]; exact .ptr _ _⟩)
    · cases h
  · split at h
    · rename_i hb
      obtain ⟨e, hu⟩ := isSl_spec hT hb
      split at h <;> first | cases h | skip
      all_goals (rename_i hn; obtain ⟨o, n, c, ho, hob⟩ := nilSl_spec hn; exact ⟨o.isNone, by rw [ho]; exact eq_nils_l _ hu o n c, by rw [← hob]; rfl, eqGuard_plain (by simp [SV.den]) (by simp [SV.den]), by rw [ho]; exact .sl _ _ _ _ _ _⟩)
    · cases h
  · split at h
    · rename_i hb
      obtain ⟨e, hu⟩ := isSl_spec hT hb
      split at h <;> first | cases h | skip
      all_goals (rename_i hn; obtain ⟨o, n, c, ho, hob⟩ := nilSl_spec hn; exact ⟨o.isNone, by rw [ho]; exact eq_nils_r _ hu o n c, by rw [← hob]; rfl, eqGuard_plain (by simp [SV.den]) (by simp [SV.den]), by rw [ho]; exact .sl _ _ _ _ _ _⟩)
    · cases h
  · cases h
end
end Go.Vd
