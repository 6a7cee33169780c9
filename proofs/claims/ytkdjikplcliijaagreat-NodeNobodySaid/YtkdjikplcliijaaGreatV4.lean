/-  The evaluator is sound, part 4: operations that change memory. -/
import Derived.Test.YtkdjikplcliijaaGreatV3
namespace Go.Vd
section
variable {P : Program} {T : BT} {base : World} {F : List Nat} {env : Env} {hp : Hp} {vs : List MV} {a : Act} {w : World}

theorem storeSV_run (hT : T.All (TiOk P)) (ok : OK base F env hp vs a w) {t : TypeId} {x y v : SV} {hp' : Hp} {sd : List Sd} (h : storeSV T hp t x y = .eff v hp' sd) (hs : All sd) :
    v = .und ∧ ∃ w', (Instr.storeAt t x.den y.den).run P w = .ok () w' ∧ OK base F env hp' vs a w' := by
  unfold storeSV at h
  split at h <;> try (cases h; done)
  rename_i ti hti
  split at h <;> try (cases h; done)
  rename_i bk c off
  split at h <;> try (cases h; done)
  rename_i bk' cs r hk
  split at h <;> try (cases h; done)
  rename_i ws hws
  split at h <;> try (cases h; done)
  rename_i hone
  split at h <;> try (cases h; done)
  rename_i hlen
  split at h <;> try (cases h; done)
  rename_i cs' hcs'
  split at h <;> try (cases h; done)
  rename_i hp1 hhp
  injection h with h1 h2 h3; subst h1; subst h2; subst h3
  obtain ⟨hb, _⟩ := hs
  have hb : bk = bk' := hb
  subst hb
  refine ⟨rfl, ?_⟩
  have hlen := Nat.eq_of_beq_eq_true hlen
  obtain ⟨d, i, z, hu, hi, hsz, _, _, _, _, _, _⟩ := (hT.find hti).ex
  have hsize : (sizeOf t).run P w = .ok ti.size w := by rw [run_sizeOf w hi, cellsOf_info hi, hsz]
  have hd := cells_den hws
  obtain ⟨w', g1, g2⟩ := write_ok (P := P) ok hk hone hcs' hhp
  exact ⟨w', by simp [Instr.storeAt, Instr.sureAddr, SV.den, storeVar, hd, dens_length, hsize, hlen, g1], g2⟩

inductive EffRes (P : Program) (a : Act) (o : Oper) (w : World) (v : SV) (Q : World → Prop) : Prop
  | val (w' : World) : (execOp a.eval o).run P w = .ok (.value v.den) w' → Q w' → EffRes P a o w v Q
  | skip (w' : World) : (execOp a.eval o).run P w = .ok .skip w' → v.den = undef → Q w' → EffRes P a o w v Q

/-- whether an operation is an append -/
def isApp : Op → Bool
  | .call c => match c.callee with
    | .builtin .append => true
    | _ => false
  | _ => false

theorem evOp_eff1 (hT : T.All (TiOk P)) (ok : OK base F env hp vs a w) {gd : Option (Nat × Bool)} {fr : Nat → Nat × Nat} {nk : Nat} {o : Oper} (hg : ∀ x ∈ o.op.operands.toList, gOK env gd x)
    (hna : isApp o.op = false) {v : SV} {hp' : Hp} {sd : List Sd} (h : evOpS T fr nk env hp vs gd o.op = .eff v hp' sd) (hs : All sd)
    (hf : (fr nk).1 = w.heap.size) : EffRes P a o w v (OK base F env hp' vs a) := by
  obtain ⟨dst, op, ty, pos, after, guard⟩ := o
  have chunk : ∀ {cs : List SV} {len : Option (Nat × Nat)}, newChunk fr nk hp cs len = .eff v hp' sd → ∀ E, v.den = (match len with | none => .pointer (some ⟨w.heap.size, 0, none⟩) | some (n, m) => .slice (some ⟨w.heap.size, 0, none⟩) n (n + m)) ∧
      OK base F env hp' vs a { w with heap := w.heap.push (.cells (SV.dens cs).toArray E (0, 0)) } := by
    intro cs len h E
    unfold newChunk at h
    split at h
    · injection h with h1 h2 h3; subst h1; subst h2
      exact ⟨by simp [SV.den, hf], by rw [hf]; exact newChunk_ok ok⟩
    · injection h with h1 h2 h3; subst h1; subst h2
      exact ⟨by simp [SV.den, hf, Ex.val], by rw [hf]; exact newChunk_ok ok⟩
  cases op <;> simp only [evOpS] at h <;> try (cases h; done)
  case alloc t =>
    split at h <;> try (cases h; done)
    rename_i ti hti
    split at h <;> try (cases h; done)
    rename_i z hz
    rw [appL_eq] at hz
    injection hz with hz; simp at hz; subst hz
    obtain ⟨d, i, zv, hu, hi, hsz, hzv, hzc, _, _, _, _⟩ := (hT.find hti).ex
    have hzr : (zeroValue t).run P w = .ok zv w := by simp [zeroValue, typeInfo, hi, hzv]
    obtain ⟨c1, c2⟩ := chunk h t
    have hc : zv.cells = (SV.dens ti.zero).toArray := by rw [← hzc]
    refine .val _ ?_ c2
    rw [c1]
    simp [execOp, Instr.alloc, hzr, newVar, newRow, newObj, Sem.run, hc]
  case box t x =>
    split at h <;> try (cases h; done)
    rename_i u hu
    split at h <;> try (cases h; done)
    rename_i cs hcs
    obtain ⟨c1, c2⟩ := chunk h t
    refine .val _ ?_ c2
    rw [c1]
    simp [execOp, Instr.box, ev_den ok (hg x (by simp [Op.operands])) hu, newVar, newRow, newObj, Sem.run, cells_den hcs]
  case buildSlice t len parts =>
    split at h <;> try (cases h; done)
    rename_i ti hti
    split at h <;> try (cases h; done)
    rename_i ps hps
    split at h <;> try (cases h; done)
    rename_i es et hk
    split at h <;> try (cases h; done)
    rename_i te hte
    split at h <;> try (cases h; done)
    rename_i hse
    have hse := Nat.eq_of_beq_eq_true hse
    split at h <;> try (cases h; done)
    rename_i z hz
    split at h <;> try (cases h; done)
    rename_i cs hcs
    split at h <;> try (cases h; done)
    rename_i hsmall
    obtain ⟨d, i, zv, hu, hi, hsz, hzv, hzc, _, hkk, _, _⟩ := (hT.find hti).ex
    rw [hk] at hkk
    obtain ⟨rfl, _⟩ := hkk
    obtain ⟨d2, i2, zv2, hu2, hi2, hsz2, hzv2, hzc2, _, _, hzl, _⟩ := (hT.find hte).ex
    have hsize : (sizeOf et).run P w = .ok es w := by rw [run_sizeOf w hi2, cellsOf_info hi2, hsz2, hse]
    have hzr : (zeroValue et).run P w = .ok zv2 w := by simp [zeroValue, typeInfo, hi2, hzv2]
    obtain ⟨c1, c2⟩ := chunk h et
    have e := evParts_den ok (fun x hx => hg x.2 (by simp only [Op.operands]; simp; exact ⟨x.1, by simpa using hx⟩)) hps
    have hf := fillSV_fill hcs
    have hc : zv2.cells = (SV.dens te.zero).toArray := by rw [← hzc2]
    have hz2 := zerosN_den hz
    have hlen : (SV.dens te.zero).length = es := by rw [dens_length, hzl, hse]
    have hza := zeros_array (SV.dens te.zero) len
    rw [hlen] at hza
    rw [hz2, ← hza] at hf
    have hp1 : (parts.map (fun p => (p.1, a.eval p.2))).toList = ps.map (fun p => (p.1, p.2.den)) := by rw [Array.toList_map, ← e]
    refine .val _ ?_ c2
    rw [c1]
    have hns : ¬ (len * es > 2 ^ 24) := by rw [Nat.ble_eq] at hsmall; omega
    simp only [execOp]
    unfold Instr.buildSlice
    simp only [Sem.run_bind, run_underlying hu, Result.andThen_ok, hsize, if_neg hns]
    by_cases h0 : len * es = 0
    · have hA0 : Array.map (fun x => (#[] : Array Value)[x % (#[] : Array Value).size]!) (Array.range (len * es)) = Array.map (fun j => (SV.dens te.zero).toArray[j % (SV.dens te.zero).toArray.size]!) (Array.range (len * es)) := by rw [h0]; simp
      simp only [if_pos h0, pure_bind]
      rw [hA0, hp1, hf]
      simp [newRow, newObj, Sem.run]
    · simp only [if_neg h0, Sem.run_bind, hzr, Result.andThen_ok, pure_bind, hc]
      rw [hp1, hf]
      simp [newRow, newObj, Sem.run]
  case load t x =>
    split at h <;> try (cases h; done)
    unfold loadSV at h
    repeat' (split at h <;> try (cases h; done))
  case fieldAddr t x f =>
    split at h <;> try (cases h; done)
    unfold fieldSV at h
    repeat' (split at h <;> try (cases h; done))
  case indexAddr t x f =>
    split at h <;> try (cases h; done)
    split at h <;> try (cases h; done)
    unfold indexSV at h
    repeat' (split at h <;> try (cases h; done))
  case store t x y =>
    split at h <;> try (cases h; done)
    rename_i u hu
    split at h <;> try (cases h; done)
    rename_i u' hu'
    obtain ⟨rfl, w', h1, h2⟩ := storeSV_run hT ok h hs
    refine .skip w' ?_ rfl h2
    simp [execOp, ev_den ok (hg x (by simp [Op.operands])) hu, ev_den ok (hg y (by simp [Op.operands])) hu', h1]
  case unOp op t x =>
    cases op <;> simp only [] at h <;> try (cases h; done)
    repeat' (first | (cases h; done) | (split at h))
  case makeFunc fn first caps =>
    cases fn <;> simp only [] at h <;> try (cases h; done)
    repeat' (first | (cases h; done) | (split at h))
  case call c =>
    obtain ⟨callee, args, argTypes⟩ := c
    cases callee <;> simp only [] at h <;> try (cases h; done)
    case value x => repeat' (first | (cases h; done) | (split at h))
    case invoke x name => repeat' (first | (cases h; done) | (split at h))
    case builtin b =>
      cases b <;> simp only [] at h <;> try (cases h; done)
      case append => cases hna
      case delete =>
        split at h <;> try (cases h; done)
        rename_i t tl hat
        have hat' : argTypes = (t :: tl).toArray := by rw [← Array.toArray_toList (xs := argTypes), hat]
        split at h <;> try (cases h; done)
        rename_i m k hx
        have e1 := evs_den ok (fun x hx => hg x (by simpa [Op.operands, Call.operands] using hx)) hx
        have e2 : args.map a.eval = (args.toList.map a.eval).toArray := by rw [← Array.toList_map]
        rw [e1] at e2
        obtain ⟨w', g1, g2⟩ := delSV_run (P := P) (ty := ty) (kt' := t) (more := tl) hT ok h hs
        refine .val w' ?_ g2
        simp only [execOp]
        simp only [resolve, e2, invoke, builtin, hat']
        simp [SV.dens] at g1 ⊢
        simp [g1]
      case copy =>
        split at h <;> try (cases h; done)
        rename_i t t' hat
        have hat' : argTypes = #[t, t'] := by rw [← Array.toArray_toList (xs := argTypes), hat]
        split at h <;> try (cases h; done)
        rename_i d y hx
        have e1 := evs_den ok (fun x hx => hg x (by simpa [Op.operands, Call.operands] using hx)) hx
        have e2 : args.map a.eval = (args.toList.map a.eval).toArray := by rw [← Array.toList_map]
        rw [e1] at e2
        obtain ⟨w', g1, g2⟩ := (copySV_run (P := P) (ty := ty) (t' := t') (hp' := hp') hT ok hs).2 h
        refine .val w' ?_ g2
        simp only [execOp]
        simp [resolve, e2, invoke, builtin, SV.dens, hat', g1]
      case clear =>
        split at h <;> try (cases h; done)
        rename_i t hat
        have hat' : argTypes = #[t] := by rw [← Array.toArray_toList (xs := argTypes), hat]
        split at h <;> try (cases h; done)
        rename_i d hx
        have e1 := evs_den ok (fun x hx => hg x (by simpa [Op.operands, Call.operands] using hx)) hx
        have e2 : args.map a.eval = (args.toList.map a.eval).toArray := by rw [← Array.toList_map]
        rw [e1] at e2
        obtain ⟨w', g1, g2⟩ := (clearSV_run (P := P) (ty := ty) (hp' := hp') hT ok hs).2 h
        refine .val w' ?_ g2
        simp only [execOp]
        simp [resolve, e2, invoke, builtin, SV.dens, hat', g1]
      all_goals (repeat' (first | (cases h; done) | (split at h)))
  case slice t x lo hi mx =>
    split at h <;> try (cases h; done)
    split at h <;> try (cases h; done)
    split at h <;> try (cases h; done)
    split at h <;> try (cases h; done)
    unfold sliceSV at h
    repeat' (first | (cases h; done) | (split at h) | (unfold cutSV at h) | (unfold cut3SV at h))
  case makeInterface t x =>
    split at h <;> try (cases h; done)
    unfold ifaceSV at h
    repeat' (first | (cases h; done) | (split at h))
  case index t x i =>
    split at h <;> try (cases h; done)
    split at h <;> try (cases h; done)
    unfold idxSV at h
    repeat' (first | (cases h; done) | (split at h))
  case makeMap t r =>
    split at h <;> try (cases h; done)
    injection h with h1 h2 h3; subst h1; subst h2
    refine .val { w with heap := w.heap.push (.map #[] 0) } ?_ ?_
    · simp [execOp, Instr.makeMap, newObj, Sem.run, SV.den, hf]
    · rw [hf]
      exact new_ok ok rfl rfl rfl rfl ⟨#[], 0, by simp, by simp⟩
  case lookup t x k cok =>
    split at h <;> try (cases h; done)
    split at h <;> try (cases h; done)
    unfold lookSV at h
    repeat' (first | (cases h; done) | (split at h))
  case mapUpdate t m k x =>
    split at h <;> try (cases h; done)
    rename_i u hu
    split at h <;> try (cases h; done)
    rename_i u' hu'
    split at h <;> try (cases h; done)
    rename_i u'' hu''
    obtain ⟨rfl, w', h1, h2⟩ := updSV_run (P := P) hT ok h hs
    refine .skip w' ?_ rfl h2
    simp [execOp, ev_den ok (hg m (by simp [Op.operands])) hu, ev_den ok (hg k (by simp [Op.operands])) hu', ev_den ok (hg x (by simp [Op.operands])) hu'', h1]
  case makeSlice t l c =>
    split at h <;> try (cases h; done)
    rename_i u hu
    split at h <;> try (cases h; done)
    rename_i u' hu'
    unfold makeSlSV at h
    split at h <;> try (cases h; done)
    rename_i ti hti
    split at h <;> try (cases h; done)
    rename_i es et hk
    split at h <;> try (cases h; done)
    rename_i te hte
    split at h <;> try (cases h; done)
    rename_i hse
    have hse := Nat.eq_of_beq_eq_true hse
    split at h <;> try (cases h; done)
    rename_i kl ln kc cp
    split at h <;> try (cases h; done)
    rename_i hle
    have hle := Nat.le_of_ble_eq_true hle
    split at h <;> try (cases h; done)
    rename_i hfit
    split at h <;> try (cases h; done)
    rename_i z hz
    obtain ⟨hut, i, zv, hi, hzv, hsz, hby, hzc, hzl⟩ := slice_types hT hti hk hte hse
    obtain ⟨f1, f2, f3, f4⟩ := fits_more hfit
    have hb : (i.bytes : Int) * (cp : Int) ≤ 281474976710656 := by
      have : ((i.bytes * cp : Nat) : Int) ≤ 281474976710656 := by
        rw [hby, Nat.mul_comm]; omega
      rwa [Int.natCast_mul] at this
    have hr := run_make (P := P) w t et i zv hut hi hzv kl kc (ln : Int) (cp : Int) (by omega) (by omega) hb f2
    obtain ⟨c1, c2⟩ := chunk h et
    have hcap : ln + (cp - ln) = cp := by omega
    have hcells : madeCells zv.cells ((cp : Int).toNat * i.size) = (SV.dens z).toArray := by
      have hz2 := zerosN_den hz
      have hza := zeros_array (SV.dens te.zero) cp
      unfold madeCells
      rw [hzc, Int.toNat_natCast, hsz, hz2, ← hza, dens_length, hzl]
    refine .val _ ?_ c2
    rw [c1]
    rw [hcells] at hr
    simp [execOp, ev_den ok (hg l (by simp [Op.operands])) hu, ev_den ok (hg c (by simp [Op.operands])) hu', SV.den, hr, hcap]
  all_goals (repeat' (first | (cases h; done) | (split at h)))

/-- an operation that changes memory: where what is laid comes to lie, whatever is asked of it beside -/
theorem evOp_eff (hT : T.All (TiOk P)) (ok : OK base F env hp vs a w) {gd : Option (Nat × Bool)} {nk : Nat} {o : Oper} (hg : ∀ x ∈ o.op.operands.toList, gOK env gd x) :
    ∃ bc : Nat × Nat, ∀ (fr : Nat → Nat × Nat), fr nk = bc → ∀ (v : SV) (hp' : Hp) (sd : List Sd), evOpS T fr nk env hp vs gd o.op = .eff v hp' sd → All sd → EffRes P a o w v (OK base F env hp' vs a) := by
  cases hna : isApp o.op with
  | false => exact ⟨(w.heap.size, 0), fun fr hf v hp' sd h hs => evOp_eff1 hT ok hg hna h hs (by rw [hf])⟩
  | true =>
    obtain ⟨dst, op, ty, pos, after, guard⟩ := o
    cases op <;> simp only [isApp] at hna <;> try (cases hna; done)
    rename_i c
    obtain ⟨callee, args, argTypes⟩ := c
    cases callee <;> simp only [] at hna <;> try (cases hna; done)
    rename_i b
    cases b <;> simp only [] at hna <;> try (cases hna; done)
    simp only [evOpS]
    by_cases hgo : ∃ t s y, argTypes = #[t, t] ∧ evs env gd args.toList = some [s, y]
    · obtain ⟨t, s, y, rfl, hx⟩ := hgo
      have e1 := evs_den ok (fun x hx => hg x (by simpa [Op.operands, Call.operands] using hx)) hx
      have e2 : args.map a.eval = (args.toList.map a.eval).toArray := by rw [← Array.toList_map]
      rw [e1] at e2
      simp only [hx, Nat.beq_refl]
      cases hpl : appPlan T hp t s y with
      | stop => exact ⟨(0, 0), fun fr _ v hp' sd h => by simp [appSV] at h⟩
      | val u s1 => exact ⟨(0, 0), fun fr _ v hp' sd h => by simp [appSV] at h⟩
      | put u h1 s1 =>
        refine ⟨(0, 0), fun fr _ v hp' sd h hs => ?_⟩
        simp only [appSV] at h
        injection h with g1 g2 g3; subst g1; subst g2; subst g3
        obtain ⟨w', g1, g2⟩ := appPlan_put (P := P) (ty := ty) hT ok hpl hs
        refine .val w' ?_ g2
        simp only [execOp]
        simp [resolve, e2, invoke, builtin, SV.dens, g1]
      | lay n es l hp0 s1 =>
        by_cases hs1 : All s1
        · obtain ⟨B, X, w', g1, g2⟩ := appPlan_lay (P := P) (ty := ty) hT ok hpl hs1
          refine ⟨(B, X), fun fr hf v hp' sd h hs => ?_⟩
          simp only [appSV, hf] at h
          injection h with h1 h2 h3; subst h1; subst h2; subst h3
          refine .val w' ?_ (g2 nk)
          simp only [execOp]
          simp [resolve, e2, invoke, builtin, SV.dens, SV.den, Ex.val, g1]
        · refine ⟨(0, 0), fun fr _ v hp' sd h hs => ?_⟩
          simp only [appSV] at h
          injection h with h1 h2 h3; subst h3
          exact absurd hs hs1
    · refine ⟨(0, 0), fun fr _ v hp' sd h hs => ?_⟩
      split at h <;> try (cases h; done)
      rename_i t t' hat
      split at h <;> try (cases h; done)
      rename_i htt
      split at h <;> try (cases h; done)
      rename_i s y hx
      exact absurd ⟨t, s, y, by rw [← Array.toArray_toList (xs := argTypes), hat, Nat.eq_of_beq_eq_true htt], hx⟩ hgo
end
end Go.Vd
