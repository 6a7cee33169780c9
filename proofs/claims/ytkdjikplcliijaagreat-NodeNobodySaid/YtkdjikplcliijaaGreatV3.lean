/-  The evaluator is sound, part 3: 'evOp'. -/
import Derived.Test.YtkdjikplcliijaaGreatV2f
namespace Go.Vd
section
variable {P : Program} {T : BT} {base : World} {F : List Nat} {env : Env} {hp : Hp} {vs : List MV} {a : Act} {w : World}

theorem evBin_run (hT : T.All (TiOk P)) {op : BinOp} {t : TypeId} {x y v : SV} (h : evBin T op t x y = some v) (ox oy : Operand) (w : World) :
    (eqGuard op t ox oy x.den y.den).run P w = .ok () w ∧ (binOp op t x.den y.den).run P w = .ok v.den w := by
  unfold evBin at h
  split at h
  · injection h with h; subst h
    refine ⟨eqGuard_skip ⟨by simp, by simp⟩, ?_⟩
    simp [binOp, SV.den, Op.shift]
    intro hh; omega
  · injection h with h; subst h
    refine ⟨eqGuard_skip ⟨by simp, by simp⟩, ?_⟩
    simp [binOp, SV.den, Op.shift]
    intro hh; omega
  · cases h
  · cases h
  · rename_i hn1 hn2
    split at h
    · rename_i hk
      have hk := of_decide_eq_true hk; subst hk
      exact ⟨eqGuard_plain (by simp [SV.den]) (by simp [SV.den]), intBin_run (fun e => hn1 e) (fun e => hn2 e) h⟩
    · cases h
  · obtain ⟨b, h1, h2, h3, h4⟩ := eqSV_run hT h .eql ox oy w
    refine ⟨h3, ?_⟩
    rw [h4.eql, h2]; simp [h1]
  · split at h
    · rename_i r hr
      obtain ⟨b, h1, h2, h3, h4⟩ := eqSV_run hT hr .neq ox oy w
      refine ⟨h3, ?_⟩
      obtain ⟨q, e1, e2⟩ := notSV_not h
      rw [h2] at e1
      injection e1 with e1; subst e1
      rw [h4.neq, e2]; simp [h1]
    · cases h
  · cases h

theorem set_fold : ∀ (vals : List Value) (n off : Nat) (cs : List Value), off + n + vals.length ≤ cs.length →
    (vals.zipIdx n).foldl (fun (x : Array Value) p => x.setIfInBounds (off + p.2) p.1) cs.toArray = (cs.take (off + n) ++ vals ++ cs.drop (off + n + vals.length)).toArray
  | [], n, off, cs, h => by simp
  | v :: vals, n, off, cs, h => by
    simp only [List.zipIdx_cons, List.foldl_cons, List.length_cons] at h ⊢
    have h1 : cs.toArray.setIfInBounds (off + n) v = (cs.set (off + n) v).toArray := by simp
    rw [h1, set_fold vals (n + 1) off (cs.set (off + n) v) (by simp; omega)]
    congr 1
    have h2 : (cs.set (off + n) v).take (off + (n + 1)) = cs.take (off + n) ++ [v] := by
      rw [show off + (n + 1) = (off + n) + 1 by omega, List.take_add_one]
      simp [List.take_set_of_le (Nat.le_refl _), show off + n < cs.length by omega]
    have h3 : (cs.set (off + n) v).drop (off + (n + 1) + vals.length) = cs.drop (off + n + (vals.length + 1)) := by
      rw [List.drop_set_of_lt (by omega)]; congr 1; omega
    rw [h2, h3]; simp

theorem fillSV_fill : ∀ {es : Nat → Option (Nat × Nat)} {ps : List (Nat × SV)} {cs r : List SV}, fillSV es ps cs = some r →
    Instr.fill es (SV.dens cs).toArray (ps.map (fun p => (p.1, p.2.den))) = some (SV.dens r).toArray
  | es, [], cs, r, h => by simp [fillSV] at h; subst h; simp [Instr.fill]
  | es, (i, v) :: rest, cs, r, h => by
    simp only [fillSV] at h
    split at h <;> try (cases h; done)
    rename_i off size hes
    split at h <;> try (cases h; done)
    rename_i vs hvs
    split at h <;> try (cases h; done)
    split at h <;> try (cases h; done)
    rename_i hl
    have hl := Nat.eq_of_beq_eq_true hl
    split at h <;> try (cases h; done)
    rename_i cs' hcs
    obtain ⟨p1, p2⟩ := putN_den hcs
    have hd := cells_den hvs
    have ih := fillSV_fill h
    simp only [List.map_cons, Instr.fill, hes, hd]
    have e1 : (SV.dens vs).toArray.size = vs.length := by simp [dens_length]
    have e2 : (SV.dens cs).toArray.size = cs.length := by simp [dens_length]
    rw [e1, e2]
    have hc : (decide (vs.length ≠ size) || decide (off + vs.length > cs.length)) = false := by simp; omega
    rw [hc]
    simp only [Bool.false_eq_true, if_false]
    rw [← ih, p2]
    congr 1
    have := set_fold (SV.dens vs) 0 off (SV.dens cs) (by simp [dens_length]; omega)
    simp only [Nat.add_zero, dens_length] at this
    rw [← this, ← Array.foldl_toList, Array.toList_zipIdx]

theorem evO_den (ok : OK base F env hp vs a w) {gd : Option (Nat × Bool)} {x : Option Operand} {r : Option SV} (hg : ∀ y, x = some y → gOK env gd y) (h : evO env gd x = some r) : x.map a.eval = r.map SV.den := by
  unfold evO at h
  split at h
  · injection h with h; subst h; rfl
  · split at h
    · rename_i hv
      injection h with h; subst h
      simp [ev_den ok (hg _ rfl) hv]
    · cases h

theorem evOp_val (hT : T.All (TiOk P)) (ok : OK base F env hp vs a w) {gd : Option (Nat × Bool)} {fr : Nat → Nat × Nat} {nk : Nat} {o : Oper} (hg : ∀ x ∈ o.op.operands.toList, gOK env gd x)
    {v : SV} {sd : List Sd} (h : evOpS T fr nk env hp vs gd o.op = .val v sd) (hs : All sd) : (execOp a.eval o).run P w = .ok (.value v.den) w := by
  obtain ⟨dst, op, ty, pos, after, guard⟩ := o
  cases op <;> simp only [evOpS] at h <;> try (cases h; done)
  case move x =>
    split at h
    · rename_i u hu
      injection h with h1 h2; subst h1
      simp [execOp, ev_den ok (hg x (by simp [Op.operands])) hu]
    · cases h
  case assign x =>
    split at h
    · rename_i u hu
      injection h with h1 h2; subst h1
      simp [execOp, ev_den ok (hg x (by simp [Op.operands])) hu]
    · cases h
  case pick c x y =>
    split at h
    · rename_i c' hc
      split at h
      · rename_i x' hx
        split at h
        · rename_i y' hy
          split at h
          · rename_i r hr
            have e1 := ev_den ok (hg c (by simp [Op.operands])) hc
            have e2 := ev_den ok (hg x (by simp [Op.operands])) hx
            have e3 := ev_den ok (hg y (by simp [Op.operands])) hy
            split at h
            · rename_i p q hpq
              injection h with h1 h2; subst h1; subst h2
              exact evPick_run e1 e2 e3 hr (fun p' q' h' => by rw [hpq] at h'; injection h' with h'; injection h' with h1 h2; subst h1; subst h2; exact hs.1) rfl
            · rename_i hpq
              injection h with h1 h2; subst h1; subst h2
              exact evPick_run e1 e2 e3 hr (fun p' q' h' => by rw [hpq] at h'; cases h') rfl
          · cases h
        · cases h
      · cases h
    · cases h
  case alloc t =>
    split at h
    · split at h
      · cases h
      · cases h
    · cases h
  case box t x =>
    split at h
    · split at h
      · cases h
      · cases h
    · cases h
  case build t parts =>
    split at h
    · rename_i ti hti
      split at h
      · rename_i ps hps
        split at h
        · rename_i offs hk
          split at h
          · rename_i cs hcs
            injection h with h1 h2; subst h1
            obtain ⟨d, i, z, hu, hi, hsz, hz, hzc, _, hkk, _⟩ := (hT.find hti).ex
            rw [hk] at hkk
            obtain ⟨fs, rfl, hm, _⟩ := hkk
            have e := evParts_den ok (fun x hx => hg x.2 (by simp only [Op.operands]; simp; exact ⟨x.1, by simpa using hx⟩)) hps
            have hf := fillSV_fill hcs
            have hb : P.built t (parts.map (fun p => (p.1, a.eval p.2))).toList = some (SV.dens cs).toArray := by
              simp only [Program.built, hi, hu, hz, hm]
              have h0 : z.cells = (SV.dens ti.zero).toArray := by rw [← hzc]
              rw [h0]
              have h1 : (fun x => offs.toArray[x]?) = nth offs := by funext j; rw [nth_eq]; simp
              rw [h1]
              simp only [Array.toList_map]
              rw [e]; exact hf
            have hr := run_build w t _ _ hb
            simp only [execOp]
            simp [hr, SV.den]
          · cases h
        · cases h
      · cases h
    · cases h
  case buildSlice t len parts =>
    split at h <;> try (cases h; done)
    split at h <;> try (cases h; done)
    split at h <;> try (cases h; done)
    split at h <;> try (cases h; done)
    split at h <;> try (cases h; done)
    split at h <;> try (cases h; done)
    split at h <;> try (cases h; done)
    split at h <;> try (cases h; done)
  case slice t x lo hi mx =>
    split at h <;> try (cases h; done)
    rename_i u hu
    split at h <;> try (cases h; done)
    rename_i l hl
    split at h <;> try (cases h; done)
    rename_i h' hh
    split at h <;> try (cases h; done)
    rename_i m hm
    have e := sliceSV_run (P := P) (w := w) hT h hs
    have e1 := evO_den ok (fun y hy => hg y (by simp [Op.operands, hy])) hl
    have e2 := evO_den ok (fun y hy => hg y (by simp [Op.operands, hy])) hh
    have e3 := evO_den ok (fun y hy => hg y (by simp [Op.operands, hy])) hm
    simp [execOp, ev_den ok (hg x (by simp [Op.operands])) hu, e1, e2, e3, e]
  case makeSlice t l c =>
    split at h <;> try (cases h; done)
    split at h <;> try (cases h; done)
    unfold makeSlSV at h
    repeat' (split at h <;> try (cases h; done))
  case makeInterface t x =>
    split at h <;> try (cases h; done)
    rename_i u hu
    simp [execOp, ev_den ok (hg x (by simp [Op.operands])) hu, ifaceSV_run (P := P) (w := w) hT h]
  case index t x i =>
    split at h <;> try (cases h; done)
    rename_i u hu
    split at h <;> try (cases h; done)
    rename_i u' hu'
    simp [execOp, ev_den ok (hg x (by simp [Op.operands])) hu, ev_den ok (hg i (by simp [Op.operands])) hu', idxSV_run (P := P) (w := w) hT h]
  case load t x =>
    split at h
    · rename_i u hu
      have e := loadSV_run hT ok h hs
      simp [execOp, ev_den ok (hg x (by simp [Op.operands])) hu, e]
    · cases h
  case store t x y =>
    split at h <;> try (cases h; done)
    split at h <;> try (cases h; done)
    unfold storeSV at h
    repeat' (split at h <;> try (cases h; done))
  case nilCheck x =>
    split at h
    · rename_i bk c off hu
      injection h with h1 h2; subst h1
      simp [execOp, ev_den ok (hg x (by simp [Op.operands])) hu, SV.den]
    · rename_i bk c off hu
      injection h with h1 h2; subst h1
      simp [execOp, ev_den ok (hg x (by simp [Op.operands])) hu, SV.den]
    · rename_i bk hu
      injection h with h1 h2; subst h1
      simp [execOp, ev_den ok (hg x (by simp [Op.operands])) hu, SV.den]
    · rename_i t y hu
      injection h with h1 h2; subst h1
      simp [execOp, ev_den ok (hg x (by simp [Op.operands])) hu, SV.den]
    · rename_i f l hu
      injection h with h1 h2; subst h1
      simp [execOp, ev_den ok (hg x (by simp [Op.operands])) hu, SV.den]
    · cases h
  case binOp op t x y yt =>
    split at h
    · rename_i u hu
      split at h
      · rename_i u' hu'
        split at h
        · rename_i r hr
          injection h with h1 h2; subst h1
          obtain ⟨e1, e2⟩ := evBin_run hT hr x y w
          simp [execOp, ev_den ok (hg x (by simp [Op.operands])) hu, ev_den ok (hg y (by simp [Op.operands])) hu', e1, e2]
        · cases h
      · cases h
    · cases h
  case unOp op t x =>
    cases op <;> simp only [] at h <;> try (cases h; done)
    split at h
    · rename_i u hu
      split at h
      · rename_i r hr
        injection h with h1 h2; subst h1
        simp [execOp, ev_den ok (hg x (by simp [Op.operands])) hu, notSV_run hr]
      · cases h
    · cases h
  case convert s d x =>
    split at h
    · rename_i k n hu
      split at h
      · rename_i ti hti
        split at h
        · rename_i k' hk
          split at h
          · rename_i ts hts
            injection h with h1 h2; subst h1
            obtain ⟨dd, i, z, hu2, _, _, _, _, _, hkk, _⟩ := (hT.find hti).ex
            obtain ⟨ds, _, _, hu3, _, _, _, _, _, _, _⟩ := (hT.find hts).ex
            rw [hk] at hkk
            have hkk : dd = .int k' := hkk
            subst hkk
            have e := ev_den ok (hg x (by simp [Op.operands])) hu
            simp only [execOp, e, SV.den]
            unfold Go.convert
            simp [run_underlying hu2, run_underlying hu3, Conv.intToInt]
          · cases h
        · cases h
      · cases h
    · cases h
  case makeFunc fn first caps =>
    cases fn <;> simp only [] at h <;> try (cases h; done)
    rename_i f
    split at h
    · rename_i hf
      split at h
      · rename_i cs hcs
        injection h with h1 h2; subst h1
        have e := evs_den ok (fun x hx => hg x (by simp [Op.operands]; right; simpa using hx)) hcs
        have hf' : first = #[] := by simpa using hf
        subst hf'
        have e2 : caps.map a.eval = (caps.toList.map a.eval).toArray := by rw [← Array.toList_map]
        rw [e] at e2
        simp [execOp, Instr.makeFunc, SV.den, e2]
      · cases h
    · cases h
  case fieldAddr t x f =>
    split at h
    · rename_i u hu
      simp [execOp, ev_den ok (hg x (by simp [Op.operands])) hu, fieldSV_run hT h]
    · cases h
  case indexAddr t x i =>
    split at h
    · rename_i u hu
      split at h
      · rename_i u' hu'
        simp [execOp, ev_den ok (hg x (by simp [Op.operands])) hu, ev_den ok (hg i (by simp [Op.operands])) hu', indexSV_run hT h hs]
      · cases h
    · cases h
  case makeMap t r =>
    split at h <;> cases h
  case mapUpdate t m k x =>
    split at h <;> try (cases h; done)
    split at h <;> try (cases h; done)
    split at h <;> try (cases h; done)
    unfold updSV at h
    repeat' (split at h <;> try (cases h; done))
  case lookup t x k cok =>
    split at h <;> try (cases h; done)
    rename_i u hu
    split at h <;> try (cases h; done)
    rename_i u' hu'
    simp [execOp, ev_den ok (hg x (by simp [Op.operands])) hu, ev_den ok (hg k (by simp [Op.operands])) hu', lookSV_run hT ok h hs]
  case extract x j =>
    split at h
    · rename_i l hu
      split at h
      · rename_i r hr
        injection h with h1 h2; subst h1
        rw [nth_eq] at hr
        simp [execOp, ev_den ok (hg x (by simp [Op.operands])) hu, Instr.extract, SV.den, dens_map, hr]
      · cases h
    · cases h
  case call c =>
    obtain ⟨callee, args, argTypes⟩ := c
    cases callee <;> simp only [] at h <;> try (cases h; done)
    case value x =>
      repeat' (split at h <;> try (cases h; done))
      all_goals cases h
    case invoke x name =>
      repeat' (split at h <;> try (cases h; done))
      all_goals cases h
    case builtin b =>
      cases b <;> simp only [] at h <;> try (cases h; done)
      case delete =>
        split at h <;> try (cases h; done)
        split at h <;> try (cases h; done)
        unfold delSV at h
        repeat' (split at h <;> try (cases h; done))
      case len =>
        split at h <;> try (cases h; done)
        rename_i t tl hat
        have hat' : argTypes[0]? = some t := by rw [← Array.getElem?_toList, hat]; rfl
        split at h
        · rename_i hsl
          obtain ⟨e, hu⟩ := isSl_spec hT hsl
          split at h <;> try (cases h; done)
          all_goals
            rename_i hx
            injection h with h1 h2; subst h1
            have e1 := evs_den ok (fun x hx => hg x (by simpa [Op.operands, Call.operands] using hx)) hx
            have e2 : args.map a.eval = (args.toList.map a.eval).toArray := by rw [← Array.toList_map]
            rw [e1] at e2
            simp only [execOp]
            simp [resolve, e2, invoke, builtin, Builtin.len_, SV.dens, SV.den, hat', run_underlying hu, goInt]
        · split at h <;> try (cases h; done)
          rename_i hst
          have hu := isStr_spec hT hst
          split at h <;> try (cases h; done)
          rename_i hx
          injection h with h1 h2; subst h1
          have e1 := evs_den ok (fun x hx => hg x (by simpa [Op.operands, Call.operands] using hx)) hx
          have e2 : args.map a.eval = (args.toList.map a.eval).toArray := by rw [← Array.toList_map]
          rw [e1] at e2
          simp only [execOp]
          simp [resolve, e2, invoke, builtin, Builtin.len_, SV.dens, SV.den, hat', run_underlying hu, goInt]
      case cap =>
        split at h <;> try (cases h; done)
        rename_i t tl hat
        split at h <;> try (cases h; done)
        rename_i hsl
        obtain ⟨e, hu⟩ := isSl_spec hT hsl
        have hat' : argTypes[0]? = some t := by rw [← Array.getElem?_toList, hat]; rfl
        split at h <;> try (cases h; done)
        all_goals
          rename_i hx
          injection h with h1 h2; subst h1
          have e1 := evs_den ok (fun x hx => hg x (by simpa [Op.operands, Call.operands] using hx)) hx
          have e2 : args.map a.eval = (args.toList.map a.eval).toArray := by rw [← Array.toList_map]
          rw [e1] at e2
          simp only [execOp]
          simp [resolve, e2, invoke, builtin, Builtin.cap_, SV.dens, SV.den, hat', run_underlying hu, goInt]
      case append =>
        split at h <;> try (cases h; done)
        rename_i t t' hat
        split at h <;> try (cases h; done)
        rename_i htt
        have htt := Nat.eq_of_beq_eq_true htt
        subst htt
        have hat' : argTypes = #[t, t] := by rw [← Array.toArray_toList (xs := argTypes), hat]
        split at h <;> try (cases h; done)
        rename_i s y hx
        have e1 := evs_den ok (fun x hx => hg x (by simpa [Op.operands, Call.operands] using hx)) hx
        have e2 : args.map a.eval = (args.toList.map a.eval).toArray := by rw [← Array.toList_map]
        rw [e1] at e2
        cases hp' : appPlan T hp t s y <;> rw [hp'] at h <;> simp only [appSV] at h <;> try (cases h; done)
        injection h with h1 h2; subst h1; subst h2
        have e := appPlan_val (P := P) (ty := ty) hT ok hp' hs
        simp only [execOp]
        simp [resolve, e2, invoke, builtin, SV.dens, hat', e]
      case copy =>
        split at h <;> try (cases h; done)
        rename_i t t' hat
        have hat' : argTypes = #[t, t'] := by rw [← Array.toArray_toList (xs := argTypes), hat]
        split at h <;> try (cases h; done)
        rename_i d y hx
        have e1 := evs_den ok (fun x hx => hg x (by simpa [Op.operands, Call.operands] using hx)) hx
        have e2 : args.map a.eval = (args.toList.map a.eval).toArray := by rw [← Array.toList_map]
        rw [e1] at e2
        have e := (copySV_run (P := P) (ty := ty) (t' := t') (hp' := hp) hT ok hs).1 h
        simp only [execOp]
        simp [resolve, e2, invoke, builtin, SV.dens, hat', e]
      case clear =>
        split at h <;> try (cases h; done)
        rename_i t hat
        have hat' : argTypes = #[t] := by rw [← Array.toArray_toList (xs := argTypes), hat]
        split at h <;> try (cases h; done)
        rename_i d hx
        have e1 := evs_den ok (fun x hx => hg x (by simpa [Op.operands, Call.operands] using hx)) hx
        have e2 : args.map a.eval = (args.toList.map a.eval).toArray := by rw [← Array.toList_map]
        rw [e1] at e2
        have e := (clearSV_run (P := P) (ty := ty) (hp' := hp) hT ok hs).1 h
        simp only [execOp]
        simp [resolve, e2, invoke, builtin, SV.dens, hat', e]
      case max =>
        split at h <;> try (cases h; done)
        rename_i k x k' y hx
        injection h with h1 h2; subst h1
        have e1 := evs_den ok (fun x hx => hg x (by simpa [Op.operands, Call.operands] using hx)) hx
        have e2 : args.map a.eval = (args.toList.map a.eval).toArray := by rw [← Array.toList_map]
        rw [e1] at e2
        simp only [execOp]
        simp [resolve, e2, invoke, builtin, Builtin.max_, Builtin.max2, SV.dens, SV.den]
      case min =>
        split at h <;> try (cases h; done)
        rename_i k x k' y hx
        injection h with h1 h2; subst h1
        have e1 := evs_den ok (fun x hx => hg x (by simpa [Op.operands, Call.operands] using hx)) hx
        have e2 : args.map a.eval = (args.toList.map a.eval).toArray := by rw [← Array.toList_map]
        rw [e1] at e2
        simp only [execOp]
        simp [resolve, e2, invoke, builtin, Builtin.min_, Builtin.min2, SV.dens, SV.den]
end
end Go.Vd
