/-  The evaluator is sound, part 2f: maps. -/
import Derived.Test.YtkdjikplcliijaaGreatV2e
import Derived.MapKept
namespace Go.Vd
section
variable {P : Program} {T : BT} {base : World} {F : List Nat} {env : Env} {hp : Hp} {vs : List MV} {a : Act} {w : World}

theorem keyKind_spec (hT : T.All (TiOk P)) {kt : Nat} {k : SV} (h : keyKind T kt k = true) :
    (∃ kk n, k = .it kk n ∧ P.underlying kt = some (.int kk)) ∨ (∃ l ti r, k = .agg l ∧ T.find kt = some ti ∧ ti.flat = true ∧ l.length = ti.size ∧ eqCells l l = some r) := by
  unfold keyKind at h
  split at h <;> try (cases h; done)
  rename_i ti hti
  split at h <;> try (cases h; done)
  · rename_i kk n
    split at h <;> try (cases h; done)
    rename_i k' hk
    have := of_decide_eq_true h; subst this
    obtain ⟨d, i, z, hu, _, _, _, _, _, hkk, _⟩ := (hT.find hti).ex
    rw [hk] at hkk
    have hkk : d = .int kk := hkk
    subst hkk
    exact .inl ⟨kk, n, rfl, hu⟩
  · rename_i l
    split at h <;> try (cases h; done)
    rename_i hf
    split at h <;> try (cases h; done)
    rename_i hl
    split at h <;> try (cases h; done)
    rename_i r he
    exact .inr ⟨l, ti, r, rfl, hti, hf, Nat.eq_of_beq_eq_true hl, he⟩

/-- where a key stands -/
noncomputable def findI (T : BT) (kt : Nat) (k : SV) : List (SV × SV) → Option (Option Nat)
  | [] => some none
  | (k', _) :: l => match keyEq T kt k k' with
    | some true => some (some 0)
    | some false => match findI T kt k l with
      | some r => some (r.map Nat.succ)
      | none => none
    | none => none
theorem findKS_I {kt : Nat} {k : SV} : ∀ {l : List (SV × SV)} {r : Option SV}, findKS T kt k l = some r → ∃ i, findI T kt k l = some i ∧ r = i.bind (fun j => l[j]?.map Prod.snd)
  | [], r, h => by simp [findKS] at h; subst h; exact ⟨none, rfl, rfl⟩
  | (k', v) :: l, r, h => by
    simp only [findKS] at h
    split at h <;> try (cases h; done)
    · rename_i hk
      injection h with h; subst h
      exact ⟨some 0, by simp [findI, hk], by simp⟩
    · rename_i hk
      obtain ⟨i, h1, h2⟩ := findKS_I h
      refine ⟨i.map Nat.succ, by simp [findI, hk, h1], ?_⟩
      rw [h2]; cases i <;> simp
theorem setKS_I {kt : Nat} {k v : SV} : ∀ {l l' : List (SV × SV)}, setKS T kt k v l = some l' → ∃ i, findI T kt k l = some i ∧ l' = (match i with | none => l ++ [(k, v)] | some j => l.set j (k, v)) ∧ ∀ j, i = some j → j < l.length
  | [], l', h => by simp [setKS] at h; subst h; exact ⟨none, rfl, rfl, by simp⟩
  | (k', v') :: l, l', h => by
    simp only [setKS] at h
    split at h <;> try (cases h; done)
    · rename_i hk
      injection h with h; subst h
      exact ⟨some 0, by simp [findI, hk], by simp, by simp⟩
    · rename_i hk
      split at h <;> try (cases h; done)
      rename_i r hr
      injection h with h; subst h
      obtain ⟨i, h1, h2, h3⟩ := setKS_I hr
      refine ⟨i.map Nat.succ, by simp [findI, hk, h1], ?_, ?_⟩
      · rw [h2]; cases i <;> simp
      · intro j hj
        cases i with
        | none => simp at hj
        | some q => simp at hj; subst hj; have := h3 q rfl; simp; omega
theorem delKS_I {kt : Nat} {k : SV} : ∀ {l l' : List (SV × SV)}, delKS T kt k l = some l' → ∃ i, findI T kt k l = some i ∧ l' = (match i with | none => l | some j => l.eraseIdx j) ∧ ∀ j, i = some j → j < l.length
  | [], l', h => by simp [delKS] at h; subst h; exact ⟨none, rfl, rfl, by simp⟩
  | (k', v') :: l, l', h => by
    simp only [delKS] at h
    split at h <;> try (cases h; done)
    · rename_i hk
      injection h with h; subst h
      exact ⟨some 0, by simp [findI, hk], by simp, by simp⟩
    · rename_i hk
      split at h <;> try (cases h; done)
      rename_i r hr
      injection h with h; subst h
      obtain ⟨i, h1, h2, h3⟩ := delKS_I hr
      refine ⟨i.map Nat.succ, by simp [findI, hk, h1], ?_, ?_⟩
      · rw [h2]; cases i <;> simp
      · intro j hj
        cases i with
        | none => simp at hj
        | some q => simp at hj; subst hj; have := h3 q rfl; simp; omega

theorem keyEq_int {kt : Nat} {kk : IntKind} {n : Int} {y : SV} {b : Bool} (h : keyEq T kt (.it kk n) y = some b) : Instr.sameNow (.int kk) (.int kk n) y.den = some b := by
  unfold keyEq at h
  simp only [] at h
  split at h <;> try (cases h; done)
  split at h <;> try (cases h; done)
  rename_i hk
  have := of_decide_eq_true hk; subst this
  injection h with h; subst h
  simp [Instr.sameNow, SV.den]
theorem keyEq_agg (hT : T.All (TiOk P)) {kt : Nat} {l : List SV} {y : SV} {b : Bool} (h : keyEq T kt (.agg l) y = some b) : ∃ m, y = .agg m ∧ (Op.equal kt (SV.agg l).den y.den).run P w = .ok b w := by
  unfold keyEq at h
  simp only [] at h
  split at h <;> try (cases h; done)
  rename_i m
  split at h <;> try (cases h; done)
  rename_i r hr
  obtain ⟨b', h1, h2, _, _⟩ := eqSV_run hT hr .eql (.tmp 0) (.tmp 0) w
  refine ⟨m, rfl, ?_⟩
  have := asB_den h
  rw [h2] at this
  injection this with this; subst this
  exact h1

theorem findNow_I {kt : Nat} {kk : IntKind} {n : Int} : ∀ {l : List (SV × SV)} {es : List MapEntry} {r : Option Nat} (i : Nat), es.map (fun e => (e.key, e.val)) = l.map (fun p => (p.1.den, p.2.den)) → findI T kt (.it kk n) l = some r →
    Instr.findNow (.int kk) (.int kk n) es i = some (r.bind fun j => es[j]?.map fun e => (i + j, e.val))
  | [], es, r, i, he, h => by simp at he; subst he; simp [findI] at h; subst h; rfl
  | (k', v) :: l, [], r, i, he, h => by simp at he
  | (k', v) :: l, e :: es, r, i, he, h => by
    simp only [List.map_cons, List.cons.injEq, Prod.mk.injEq] at he
    obtain ⟨⟨h1, h2⟩, h3⟩ := he
    simp only [findI] at h
    split at h <;> try (cases h; done)
    · rename_i hk
      injection h with h; subst h
      have := keyEq_int hk
      rw [← h1] at this
      simp [Instr.findNow, this]
    · rename_i hk
      split at h <;> try (cases h; done)
      rename_i q hq
      injection h with h; subst h
      have := keyEq_int hk
      rw [← h1] at this
      simp only [Instr.findNow, this]
      rw [findNow_I (i + 1) h3 hq]
      cases q with
      | none => rfl
      | some j => simp; congr 1; funext e; congr 1; omega
theorem findAsking_I (hT : T.All (TiOk P)) {kt : Nat} {k : List SV} : ∀ {l : List (SV × SV)} {es : List MapEntry} {r : Option Nat} (i : Nat), es.map (fun e => (e.key, e.val)) = l.map (fun p => (p.1.den, p.2.den)) → findI T kt (.agg k) l = some r →
    (Instr.findAsking kt (SV.agg k).den es i).run P w = .ok (r.bind fun j => es[j]?.map fun e => (i + j, e.val)) w
  | [], es, r, i, he, h => by simp at he; subst he; simp [findI] at h; subst h; simp [Instr.findAsking]
  | (k', v) :: l, [], r, i, he, h => by simp at he
  | (k', v) :: l, e :: es, r, i, he, h => by
    simp only [List.map_cons, List.cons.injEq, Prod.mk.injEq] at he
    obtain ⟨⟨h1, h2⟩, h3⟩ := he
    simp only [findI] at h
    split at h <;> try (cases h; done)
    · rename_i hk
      injection h with h; subst h
      obtain ⟨m, _, this⟩ := keyEq_agg (P := P) (w := w) hT hk
      rw [← h1] at this
      simp [Instr.findAsking, this]
    · rename_i hk
      split at h <;> try (cases h; done)
      rename_i q hq
      injection h with h; subst h
      obtain ⟨m, _, this⟩ := keyEq_agg (P := P) (w := w) hT hk
      rw [← h1] at this
      simp only [Instr.findAsking, Sem.run_bind, this, Result.andThen_ok]
      rw [if_neg (by simp), findAsking_I hT (i + 1) h3 hq]
      cases q with
      | none => rfl
      | some j => simp; congr 1; funext e; congr 1; omega

theorem findKey_I (hT : T.All (TiOk P)) {kt : Nat} {k : SV} (hk : keyKind T kt k = true) {l : List (SV × SV)} {es : List MapEntry} {r : Option Nat} (he : es.map (fun e => (e.key, e.val)) = l.map (fun p => (p.1.den, p.2.den))) (h : findI T kt k l = some r) :
    (Instr.findKey kt k.den es).run P w = .ok (r.bind fun j => es[j]?.map fun e => (j, e.val)) w := by
  rcases keyKind_spec hT hk with ⟨kk, n, rfl, hu⟩ | ⟨kl, ti, q, rfl, hti, hf, hl, hq⟩
  · have := findNow_I (T := T) 0 he h
    simp only [Nat.zero_add] at this
    simp [Instr.findKey, run_underlying hu, this, SV.den]
  · obtain ⟨fl, ⟨fs, hu⟩, _⟩ := (hT.find hti).flat hf
    have ha := findAsking_I (P := P) (w := w) hT 0 he h
    simp only [Nat.zero_add] at ha
    cases es with
    | nil =>
      have hln : l = [] := by simpa using he.symm
      subst hln
      simp [findI] at h; subst h
      simp [Instr.findKey, run_underlying hu, Instr.findNow]
    | cons e es =>
      simp only [Instr.findKey, Sem.run_bind, run_underlying hu, Result.andThen_ok]
      have : Instr.findNow (.struct fs) (SV.agg kl).den (e :: es) 0 = none := by
        simp [Instr.findNow, Instr.sameNow]
      rw [this]
      exact ha

/-- a key that is flat is no key that cannot be hashed -/
theorem checkKey_flat (em : Bool) (n : Nat) : ∀ (t : TypeId), flatB P n t = true → ∀ (dd : Nat) (l : List SV) (q : Bool), l.length = P.cellsOf t → eqCells l l = some q →
    (Instr.checkKey em (n + dd) t (ofCells P t (SV.dens l))).run P w = .ok () w := by
  induction n with
  | zero => intro t h; simp [flatB] at h
  | succ n ih =>
    intro t h dd l q hl he
    simp only [flatB] at h
    rw [show n + 1 + dd = (n + dd) + 1 by omega]
    split at h
    · rename_i k hu
      unfold Instr.checkKey
      simp [run_underlying hu]
    · rename_i fs hu
      simp only [Bool.and_eq_true, Bool.not_eq_true'] at h
      obtain ⟨hst, hgo⟩ := h
      have e1 : ofCells P t (SV.dens l) = .agg (SV.dens l).toArray := by simp [ofCells, hu]
      rw [e1]
      unfold Instr.checkKey
      simp only [Sem.run_bind, run_underlying hu, Result.andThen_ok]
      have key : ∀ (fl : List Field) (off : Nat) (l0 l' : List SV) (q : Bool), flatGo P (flatB P n) (P.cellsOf t) fl off = true → l = l0 ++ l' → l0.length = off → eqCells l' l' = some q →
          (forIn fl PUnit.unit (fun (f : Field) (_ : PUnit) => (do
            if f.name ≠ "_" then Instr.checkKey em (n + dd) f.type (← part f.type (SV.dens l).toArray f.offset)
            pure (ForInStep.yield PUnit.unit) : Sem (ForInStep PUnit)))).run P w = .ok PUnit.unit w := by
        intro fl
        induction fl with
        | nil => intro off l0 l' q _ _ _ _; simp
        | cons f fl ihf =>
          intro off l0 l' q hgo h1 h3 he
          simp only [flatGo, Bool.and_eq_true] at hgo
          obtain ⟨⟨⟨⟨hn, ho⟩, hi⟩, hfl⟩, hrest⟩ := hgo
          have ho : f.offset = off := by simpa using ho
          have hn' : f.name ≠ "_" := by simpa using hn
          obtain ⟨i, hi⟩ := Option.isSome_iff_exists.1 hi
          have hbound : ∀ (fl : List Field) (o : Nat), flatGo P (flatB P n) (P.cellsOf t) fl o = true → o ≤ P.cellsOf t := by
            intro fl
            induction fl with
            | nil => intro o h; simp [flatGo] at h; omega
            | cons g gl ihg => intro o h; simp only [flatGo, Bool.and_eq_true] at h; have := ihg _ h.2; omega
          have hb := hbound _ _ hrest
          have hl1 : off + P.cellsOf f.type ≤ l.length := by omega
          have hlen' : P.cellsOf f.type ≤ l'.length := by rw [h1] at hl1; simp at hl1; omega
          have hsplit : eqCells (l'.take (P.cellsOf f.type) ++ l'.drop (P.cellsOf f.type)) (l'.take (P.cellsOf f.type) ++ l'.drop (P.cellsOf f.type)) = some q := by simpa using he
          obtain ⟨r1, r2, g1, g2, g3⟩ := eqCells_app rfl hsplit
          have hex : ∃ d, P.underlying f.type = some d ∧ (aggD d = false → P.cellsOf f.type = 1) := by
            cases n with
            | zero => simp [flatB] at hfl
            | succ n =>
              simp only [flatB] at hfl
              split at hfl
              · rename_i k hk; exact ⟨_, hk, fun _ => by simpa using hfl⟩
              · rename_i fs' hk; exact ⟨_, hk, fun h => by simp [aggD] at h⟩
              · cases hfl
          obtain ⟨d, hd, hd2⟩ := hex
          have p1 := part_run (w := w) hi hd (cs := SV.dens l) (off := off) (by rw [dens_length]; exact hl1) hd2
          have q1 : ((SV.dens l).drop off).take (P.cellsOf f.type) = SV.dens (l'.take (P.cellsOf f.type)) := by
            rw [h1, dens_map, dens_map, List.map_append, List.drop_append_of_le_length (by simp; omega), List.drop_of_length_le (by simp; omega)]; simp [List.map_take]
          rw [q1] at p1
          have e := ih f.type hfl dd _ r1 (by simp; omega) g1
          have hr := ihf (off + P.cellsOf f.type) (l0 ++ l'.take (P.cellsOf f.type)) (l'.drop (P.cellsOf f.type)) r2 hrest (by rw [h1]; simp) (by simp; omega) g2
          rw [List.forIn_cons]
          simp only [Sem.run_bind, if_pos hn', ho, p1, e, Result.andThen_ok, Sem.run_pure]
          exact hr
      have := key fs.toList 0 [] l q hgo rfl rfl he
      rw [← Array.forIn_toList]
      simp at this ⊢
      rw [this]
      rfl
    · cases h

theorem checkKey_I (hT : T.All (TiOk P)) {kt : Nat} {k : SV} (hk : keyKind T kt k = true) (em : Bool) (w : World) : (Instr.checkKey em 10000 kt k.den).run P w = .ok () w := by
  rcases keyKind_spec hT hk with ⟨kk, n, rfl, hu⟩ | ⟨kl, ti, q, rfl, hti, hf, hl, hq⟩
  · exact MapKept.run_checkKey hu (by simp [SV.den, MapKept.IsKey]) em 9999
  · obtain ⟨fl, ⟨fs, hu⟩, _⟩ := (hT.find hti).flat hf
    obtain ⟨d, i, z, _, hi, hsz, _⟩ := (hT.find hti).ex
    have e1 : ofCells P kt (SV.dens kl) = (SV.agg kl).den := by simp [ofCells, hu, SV.den]
    have := checkKey_flat (P := P) (w := w) em 6 kt fl 9994 kl q (by rw [cellsOf_info hi, hsz, hl]) hq
    rw [e1] at this
    exact this

theorem entriesOf_spec (ok : OK base F env hp vs a w) {x : SV} {l : List (SV × SV)} {sd : List Sd} (h : entriesOf hp x = some (l, sd)) (hs : All sd) :
    (x.den = .map none ∧ l = []) ∨ (∃ bk es clock, x.den = .map (some bk) ∧ w.heap[bk]? = some (.map es clock) ∧ es.toList.map (fun e => (e.key, e.val)) = l.map (fun p => (p.1.den, p.2.den))) := by
  unfold entriesOf at h
  split at h
  · injection h with h; injection h with h1 h2; subst h1
    exact .inl ⟨rfl, rfl⟩
  · rename_i bk c
    split at h <;> try (cases h; done)
    rename_i bk' l' hk
    injection h with h; injection h with h1 h2; subst h1; subst h2
    have hb : bk = bk' := hs.1
    subst hb
    obtain ⟨es, clock, e1, e2⟩ := ok.heap _ _ _ (getK_mem hk)
    exact .inr ⟨bk, es, clock, rfl, e1, e2⟩
  · cases h

theorem zeroOf_run (hT : T.All (TiOk P)) {t : Nat} {ti : TI} (hti : T.find t = some ti) {v : SV} (h : packAs ti.agg ti.zero = some v) (w : World) : (zeroValue t).run P w = .ok v.den w := by
  obtain ⟨d, i, z, hu, hi, hsz, hz, hc, _, _, _, _⟩ := (hT.find hti).ex
  obtain ⟨i', z', hi', hz', hf⟩ := (hT.find hti).zf
  rw [hi] at hi'; injection hi' with hi'; subst hi'
  rw [hz] at hz'; injection hz' with hz'; subst hz'
  have hzr : (zeroValue t).run P w = .ok z w := by simp [zeroValue, typeInfo, hi, hz]
  rw [hzr]
  congr 1
  rcases packAs_spec h with ⟨ha, rfl⟩ | ⟨ha, hl⟩
  · rw [ha] at hf
    cases z <;> simp at hf
    simp [Value.cells] at hc
    simp [SV.den, ← hc]
  · rw [ha] at hf
    rw [hl] at hc
    cases z <;> simp [Value.cells, SV.dens] at hc hf <;> exact hc

theorem lookSV_run (hT : T.All (TiOk P)) (ok : OK base F env hp vs a w) {t : TypeId} {x k v : SV} {cok : Bool} {sd : List Sd} (h : lookSV T hp t x k cok = .val v sd) (hs : All sd) :
    (Instr.lookup t x.den k.den cok).run P w = .ok v.den w := by
  unfold lookSV at h
  split at h <;> try (cases h; done)
  rename_i ti hti
  split at h <;> try (cases h; done)
  rename_i kt vt hk
  split at h <;> try (cases h; done)
  rename_i hkk
  split at h <;> try (cases h; done)
  rename_i l sd' he
  obtain ⟨d, i, z, hu, _, _, _, _, _, hkd, _⟩ := (hT.find hti).ex
  rw [hk] at hkd
  have hkd : d = .map kt vt := hkd
  subst hkd
  have main : All sd' → ∀ (r : Option SV) (u : Value), findKS T kt k l = some r → (∀ y, r = some y → u = y.den) → (r = none → (zeroValue vt).run P w = .ok u w) →
      (Instr.lookup t x.den k.den cok).run P w = .ok (if cok then .tuple #[u, .bool r.isSome] else u) w := by
    intro hs r u hf h1 h2
    obtain ⟨ix, f1, f2⟩ := findKS_I hf
    rcases entriesOf_spec ok he hs with ⟨hx, hl⟩ | ⟨bk, es, clock, hx, hb, hes⟩
    · subst hl
      simp [findKS] at hf; subst hf
      have hz := h2 rfl
      have hfk := findKey_I (P := P) (w := w) hT hkk (es := []) (by simp) f1
      simp [findI] at f1; subst f1
      simp only [Instr.lookup, Sem.run_bind, run_underlying hu, Result.andThen_ok, hx, Sem.run_pure]
      simp only [checkKey_I hT hkk, Result.andThen_ok, hfk, hz, Sem.run_bind, Sem.run_pure]
      simp [hz]
    · have hfk := findKey_I (P := P) (w := w) hT hkk hes f1
      simp only [Instr.lookup, Sem.run_bind, run_underlying hu, Result.andThen_ok, hx, Sem.run_pure, MapKept.run_getObj_map hb, checkKey_I hT hkk, hfk]
      cases ix with
      | none =>
        simp at f2; subst f2
        have hz := h2 rfl
        simp [hz]
      | some j =>
        have hlen : es.toList.length = l.length := by simpa using congrArg List.length hes
        simp only [Option.bind_some] at f2 ⊢
        cases hj : l[j]? with
        | none =>
          rw [hj] at f2; simp at f2; subst f2
          have : es.toList[j]? = none := by
            rw [List.getElem?_eq_none_iff] at hj ⊢; omega
          have hz := h2 rfl
          simp only [this]
          simp [hz]
        | some p =>
          rw [hj] at f2; simp at f2; subst f2
          have hu := h1 _ rfl
          have e3 := congrArg (fun m => m[j]?) hes
          simp only [List.getElem?_map, hj] at e3
          cases he2 : es.toList[j]? with
          | none => rw [he2] at e3; simp at e3
          | some e =>
            rw [he2] at e3
            simp at e3
            simp [hu, e3.2]
  split at h <;> try (cases h; done)
  · rename_i y hf
    split at h
    · injection h with h1 h2; subst h1; subst h2
      rw [main hs _ y.den hf (by simp) (by simp)]
      simp [SV.den, SV.dens]
    · injection h with h1 h2; subst h1; subst h2
      rw [main hs _ y.den hf (by simp) (by simp)]
      simp
  · rename_i hf
    split at h <;> try (cases h; done)
    rename_i te hte
    split at h <;> try (cases h; done)
    rename_i y hy
    have hz := zeroOf_run hT hte hy w
    split at h
    · injection h with h1 h2; subst h1; subst h2
      rw [main hs _ y.den hf (by simp) (fun _ => hz)]
      simp [SV.den, SV.dens]
    · injection h with h1 h2; subst h1; subst h2
      rw [main hs _ y.den hf (by simp) (fun _ => hz)]
      simp

theorem eqCells_true : ∀ {l m : List SV}, eqCells l m = some true → SV.dens l = SV.dens m
  | [], [], _ => rfl
  | [], _ :: _, h => by simp [eqCells] at h
  | x :: l, [], h => by cases x <;> simp [eqCells] at h
  | x :: l, y :: m, h => by
    cases x <;> cases y <;> simp only [eqCells] at h <;> try (cases h; done)
    rename_i k n k' n'
    split at h <;> try (cases h; done)
    rename_i hk
    have := of_decide_eq_true hk; subst this
    split at h <;> try (cases h; done)
    rename_i r hr
    injection h with h
    simp only [Bool.and_eq_true, beq_iff_eq] at h
    obtain ⟨rfl, rfl⟩ := h
    simp [SV.dens, eqCells_true hr]
theorem eqCells_ints : ∀ {l m : List SV} {q : Bool}, eqCells l m = some q → ∀ x ∈ l, ∃ k n, x = .it k n
  | [], [], _, _ => by simp
  | [], _ :: _, _, h => by simp [eqCells] at h
  | x :: l, [], _, h => by cases x <;> simp [eqCells] at h
  | x :: l, y :: m, q, h => by
    cases x <;> cases y <;> simp only [eqCells] at h <;> try (cases h; done)
    split at h <;> try (cases h; done)
    split at h <;> try (cases h; done)
    rename_i r hr
    intro z hz
    simp only [List.mem_cons] at hz
    rcases hz with rfl | hz
    · exact ⟨_, _, rfl⟩
    · exact eqCells_ints hr z hz
theorem keyEq_true {kt : Nat} {x y : SV} (h : keyEq T kt x y = some true) : x.den = y.den := by
  unfold keyEq at h
  split at h <;> try (cases h; done)
  · split at h <;> try (cases h; done)
    split at h <;> try (cases h; done)
    rename_i hk
    have := of_decide_eq_true hk; subst this
    injection h with h
    have := eq_of_beq h; subst this; rfl
  · split at h <;> try (cases h; done)
    split at h <;> try (cases h; done)
    rename_i r hr
    simp only [eqSV] at hr
    split at hr <;> try (cases hr; done)
    split at hr <;> try (cases hr; done)
    split at hr <;> try (cases hr; done)
    rename_i q hq
    injection hr with hr; subst hr
    simp only [SV.asB] at h
    injection h with h; subst h
    simp [SV.den, eqCells_true hq]
theorem sameBits_key (hT : T.All (TiOk P)) {kt : Nat} {k : SV} (hk : keyKind T kt k = true) : Instr.sameBits 10000 k.den k.den = true := by
  rcases keyKind_spec hT hk with ⟨kk, n, rfl, hu⟩ | ⟨kl, ti, q, rfl, hti, hf, hl, hq⟩
  · simp [SV.den, Instr.sameBits]
  · have : ∀ (l : List SV), (∀ x ∈ l, ∃ k n, x = SV.it k n) → ((SV.dens l).zip (SV.dens l)).all (fun p => Instr.sameBits 9999 p.1 p.2) = true := by
      intro l
      induction l with
      | nil => intro _; rfl
      | cons x l ih =>
        intro h
        obtain ⟨k, n, rfl⟩ := h x (by simp)
        simp [SV.dens, SV.den, Instr.sameBits]
        have := ih (fun y hy => h y (by simp [hy]))
        simpa using this
    have h2 := this kl (eqCells_ints hq)
    simp [SV.den, Instr.sameBits]
    simpa using h2

theorem findI_key {kt : Nat} {k : SV} : ∀ {l : List (SV × SV)} {j : Nat}, findI T kt k l = some (some j) → ∃ p, l[j]? = some p ∧ k.den = p.1.den
  | [], j, h => by simp [findI] at h
  | (k', v) :: l, j, h => by
    simp only [findI] at h
    split at h <;> try (cases h; done)
    · rename_i hk
      injection h with h; injection h with h; subst h
      exact ⟨_, rfl, keyEq_true hk⟩
    · split at h <;> try (cases h; done)
      rename_i r hr
      injection h with h
      cases r with
      | none => simp at h
      | some q =>
        simp at h; subst h
        obtain ⟨p, h1, h2⟩ := findI_key hr
        exact ⟨p, by simpa using h1, h2⟩

theorem setMap_ok (ok : OK base F env hp vs a w) {hp' : Hp} {c bk : Nat} {l l' : List (SV × SV)} {es es' : Array MapEntry} {clock clock' : Nat} (hk : getK hp c = some (bk, .map l)) (hb : w.heap[bk]? = some (.map es clock))
    (hes : es'.toList.map (fun e => (e.key, e.val)) = l'.map (fun p => (p.1.den, p.2.den))) (hs : setK hp c (.map l') = some hp') : OK base F env hp' vs a { w with heap := w.heap.setIfInBounds bk (.map es' clock') } := by
  obtain ⟨s1, s2⟩ := setK_spec hk hs
  have hb' : bk ∈ blocks hp := List.mem_map.2 ⟨_, getK_mem hk, rfl⟩
  have hlt : bk < w.heap.size := (Array.getElem?_eq_some_iff.1 hb).1
  refine ⟨ok.defers, ok.env, ?_, by rw [s1]; exact ok.nodup, by rw [s1]; exact ok.own, ?_, ok.vs⟩
  · intro k b l hm
    rcases s2 _ _ _ hm with (⟨rfl, rfl⟩ | ⟨h1, h2⟩) | h
    · exact ⟨es', clock', by simp [hlt], hes⟩
    · have hE' := ok.heap _ _ _ h1
      have e : (w.heap.setIfInBounds bk (.map es' clock'))[b]? = w.heap[b]? := by simp [Ne.symm h2]
      cases l with
      | cells l r' => obtain ⟨E', q, h3, h4⟩ := hE'; exact ⟨E', q, h3, by simpa only [e] using h4⟩
      | map l => obtain ⟨es, ck, h3, h4⟩ := hE'; exact ⟨es, ck, by simpa only [e] using h3, h4⟩
    · exact absurd ok.nodup h
  · refine ⟨ok.ext.os, ok.ext.tape, ok.ext.output, by simpa using ok.ext.size, fun b hb hn => ?_⟩
    have hne : bk ≠ b := fun e => by
      rcases ok.own bk hb' with h | h
      · exact hn (by rw [← e]; exact h)
      · rw [← e] at hb; omega
    show (w.heap.setIfInBounds bk (.map es' clock'))[b]? = _
    simp [hne]
    exact ok.ext.block b hb hn

theorem updSV_run (hT : T.All (TiOk P)) (ok : OK base F env hp vs a w) {t : TypeId} {x k y v : SV} {hp' : Hp} {sd : List Sd} (h : updSV T hp t x k y = .eff v hp' sd) (hs : All sd) :
    v = .und ∧ ∃ w', (Instr.mapUpdate t x.den k.den y.den).run P w = .ok () w' ∧ OK base F env hp' vs a w' := by
  unfold updSV at h
  split at h <;> try (cases h; done)
  rename_i ti hti
  split at h <;> try (cases h; done)
  rename_i kt vt hk
  split at h <;> try (cases h; done)
  rename_i hkk
  split at h <;> try (cases h; done)
  rename_i bk c
  split at h <;> try (cases h; done)
  rename_i bk' l hgk
  split at h <;> try (cases h; done)
  rename_i l' hl'
  split at h <;> try (cases h; done)
  rename_i hp1 hsk
  injection h with h1 h2 h3; subst h1; subst h2; subst h3
  have hb : bk = bk' := hs.1
  subst hb
  refine ⟨rfl, ?_⟩
  obtain ⟨d, i, z, hu, _, _, _, _, _, hkd, _⟩ := (hT.find hti).ex
  rw [hk] at hkd
  have hkd : d = .map kt vt := hkd
  subst hkd
  obtain ⟨es, clock, hb, hes⟩ := ok.heap _ _ _ (getK_mem hgk)
  obtain ⟨ix, f1, f2, f3⟩ := setKS_I hl'
  have hfk := findKey_I (P := P) (w := w) hT hkk hes f1
  have hlen : es.toList.length = l.length := by simpa using congrArg List.length hes
  cases ix with
  | none =>
    simp only at f2; subst f2
    refine ⟨_, ?_, setMap_ok (es' := es.push { key := k.den, val := y.den, born := clock }) (clock' := clock + 1) ok hgk hb (by simp [hes]) hsk⟩
    simp [Instr.mapUpdate, run_underlying hu, SV.den, MapKept.run_getObj_map hb, checkKey_I hT hkk, hfk, MapKept.run_setObj_map _ hb]
  | some j =>
    simp only at f2; subst f2
    have hj := f3 j rfl
    obtain ⟨p, hp1, hp2⟩ := findI_key f1
    obtain ⟨e, he⟩ : ∃ e, es[j]? = some e := ⟨es[j]'(by simp at hlen; omega), by simp⟩
    have hkey : e.key = k.den := by
      have := congrArg (fun m => m[j]?) hes
      simp [he, hp1] at this
      rw [this.1, hp2]
    refine ⟨_, ?_, setMap_ok (es' := es.modify j (fun e => { e with key := k.den, val := y.den })) (clock' := clock) ok hgk hb ?_ hsk⟩
    · simp [Instr.mapUpdate, run_underlying hu, SV.den, MapKept.run_getObj_map hb, checkKey_I hT hkk, hfk, he, hkey, Instr.keyThatStays, sameBits_key hT hkk, MapKept.run_setObj_map _ hb]
    · apply List.ext_getElem?
      intro i
      have hi := congrArg (fun m => m[i]?) hes
      simp only [List.getElem?_map, Array.getElem?_toList] at hi
      simp only [List.getElem?_map, Array.getElem?_toList, Array.getElem?_modify, List.getElem?_set]
      by_cases hij : j = i
      · subst hij
        simp [he, hj]
      · simp only [if_neg hij]
        exact hi

theorem map_erase {α β : Type} (f : α → β) : ∀ (l : List α) (j : Nat), (l.eraseIdx j).map f = (l.map f).eraseIdx j
  | [], _ => rfl
  | _ :: _, 0 => rfl
  | x :: l, j + 1 => by simp [map_erase f l j]

theorem delSV_run (hT : T.All (TiOk P)) (ok : OK base F env hp vs a w) {t ty kt' : TypeId} {more : List TypeId} {x k v : SV} {hp' : Hp} {sd : List Sd} (h : delSV T hp t x k = .eff v hp' sd) (hs : All sd) :
    ∃ w', (Builtin.delete_ (t :: more).toArray ty #[x.den, k.den]).run P w = .ok v.den w' ∧ OK base F env hp' vs a w' := by
  unfold delSV at h
  split at h <;> try (cases h; done)
  rename_i ti hti
  split at h <;> try (cases h; done)
  rename_i kt vt hk
  split at h <;> try (cases h; done)
  rename_i hkk
  split at h <;> try (cases h; done)
  rename_i bk c
  split at h <;> try (cases h; done)
  rename_i bk' l hgk
  split at h <;> try (cases h; done)
  rename_i l' hl'
  split at h <;> try (cases h; done)
  rename_i hp1 hsk
  injection h with h1 h2 h3; subst h1; subst h2; subst h3
  have hb : bk = bk' := hs.1
  subst hb
  obtain ⟨d, i, z, hu, _, _, _, _, _, hkd, _⟩ := (hT.find hti).ex
  rw [hk] at hkd
  have hkd : d = .map kt vt := hkd
  subst hkd
  obtain ⟨es, clock, hb, hes⟩ := ok.heap _ _ _ (getK_mem hgk)
  obtain ⟨ix, f1, f2, f3⟩ := delKS_I hl'
  have hfk := findKey_I (P := P) (w := w) hT hkk hes f1
  have hlen : es.toList.length = l.length := by simpa using congrArg List.length hes
  cases ix with
  | none =>
    simp only at f2; subst f2
    refine ⟨_, ?_, setMap_ok (es' := es) (clock' := clock) ok hgk hb hes hsk⟩
    simp [Builtin.delete_, run_underlying hu, SV.den, SV.dens, MapKept.run_getObj_map hb, checkKey_I hT hkk, hfk, MapKept.run_setObj_map _ hb]
  | some j =>
    simp only at f2; subst f2
    have hj := f3 j rfl
    obtain ⟨e, he⟩ : ∃ e, es[j]? = some e := ⟨es[j]'(by simp at hlen; omega), by simp⟩
    refine ⟨_, ?_, setMap_ok (es' := es.eraseIdxIfInBounds j) (clock' := clock) ok hgk hb ?_ hsk⟩
    · simp [Builtin.delete_, run_underlying hu, SV.den, SV.dens, MapKept.run_getObj_map hb, checkKey_I hT hkk, hfk, he, MapKept.run_setObj_map _ hb]
    · have hjs : j < es.size := by simp at hlen; omega
      simp only [Array.eraseIdxIfInBounds, dif_pos hjs, Array.toList_eraseIdx]
      rw [map_erase, map_erase, hes]
end
end Go.Vd
