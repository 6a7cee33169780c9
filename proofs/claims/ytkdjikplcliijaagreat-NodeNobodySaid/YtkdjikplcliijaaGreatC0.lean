/-  What a reading tells of the cells of a value. -/
import Derived.Test.YtkdjikplcliijaaGreatV9
import Derived.ChangeShapes
import Derived.DataReads
namespace Go.Vd
/-- what a cell holds -/
inductive CK where
  | int (k : IntKind)
  | bo
  | st
  | sl (e : TypeId)
section
variable {H : Type} {enc : TypeId × Value → H} {P : Program} {w : World} {base : Nat} {spare : Nat → Bool} {held : Bool}
def ckF (P : Program) (rec : TypeId → Option (List CK)) : List Field → Nat → Option (List CK)
  | [], _ => some []
  | f :: fs, off => match f.offset == off with
    | true => match rec f.type with
      | some l => match l.length == P.cellsOf f.type with
        | true => match ckF P rec fs (off + l.length) with
          | some r => some (l ++ r)
          | none => none
        | false => none
      | none => none
    | false => none
def repL {α : Type} (l : List α) : Nat → List α
  | 0 => []
  | n + 1 => repL l n ++ l
def ckB (P : Program) : Nat → TypeId → Option (List CK)
  | 0, _ => none
  | n + 1, t => match P.underlying t with
    | some (.int k) => some [.int k]
    | some .bool => some [.bo]
    | some .string => some [.st]
    | some (.slice e) => some [.sl e]
    | some (.struct fs) => match ckF P (ckB P n) fs.toList 0 with
      | some l => match l.length == P.cellsOf t with
        | true => some l
        | false => none
      | none => none
    | some (.array m e) => match ckB P n e with
      | some l => match l.length == P.cellsOf e && m * l.length == P.cellsOf t with
        | true => some (repL l m)
        | false => none
      | none => none
    | _ => none
def ckOk {H : Type} (enc : TypeId × Value → H) (P : Program) (w : World) (base : Nat) (spare : Nat → Bool) (held : Bool) : CK → Value → Prop
  | .int k, v => ∃ n, v = .int k n
  | .bo, v => ∃ b, v = .bool b
  | .st, v => ∃ s, v = .string s
  | .sl e, v => ∃ a len cap, v = .slice a len cap ∧ len ≤ maxLen ∧ ∀ i, i < len → ∃ ad cs fuel x, a = some ad ∧ w.cells? base (ad.add (i * P.cellsOf e)) (P.cellsOf e) = some cs ∧ DataW.trod enc P w base spare held fuel e cs = some x
def allCK {H : Type} (enc : TypeId × Value → H) (P : Program) (w : World) (base : Nat) (spare : Nat → Bool) (held : Bool) : List CK → List Value → Prop
  | [], [] => True
  | k :: l, v :: m => ckOk enc P w base spare held k v ∧ allCK enc P w base spare held l m
  | _, _ => False
theorem allCK_app : ∀ {l l' : List CK} {m m' : List Value}, allCK enc P w base spare held l m → allCK enc P w base spare held l' m' → allCK enc P w base spare held (l ++ l') (m ++ m')
  | [], _, [], _, _, h => h
  | [], _, _ :: _, _, h, _ => h.elim
  | _ :: _, _, [], _, h, _ => h.elim
  | _ :: _, _, _ :: _, _, h, h' => ⟨h.1, allCK_app h.2 h'⟩
theorem mapM_some {α β : Type} {f : α → Option β} : ∀ {l : List α} {r : List β}, l.mapM f = some r → ∀ x ∈ l, ∃ y, f x = some y
  | [], _, _, x, h => by cases h
  | a :: l, r, hr, x, hx => by
    simp only [List.mapM_cons, Option.bind_eq_bind, Option.pure_def] at hr
    cases ha : f a with
    | none => rw [ha] at hr; cases hr
    | some y =>
      rw [ha] at hr
      cases hl : l.mapM f with
      | none => rw [hl] at hr; cases hr
      | some ys =>
        simp only [List.mem_cons] at hx
        rcases hx with rfl | hx
        · exact ⟨y, ha⟩
        · exact mapM_some hl x hx
theorem ckF_ok {rec : TypeId → Option (List CK)} {fuel : Nat} {cs : List Value} (hrec : ∀ t l, rec t = some l → ∀ cs x, DataW.trod enc P w base spare held fuel t cs = some x → allCK enc P w base spare held l cs) :
    ∀ {fs : List Field} {off : Nat} {l : List CK}, ckF P rec fs off = some l → (∀ f ∈ fs, ∃ x, DataW.trod enc P w base spare held fuel f.type ((cs.drop f.offset).take (P.cellsOf f.type)) = some x) → off + l.length ≤ cs.length →
      allCK enc P w base spare held l ((cs.drop off).take l.length)
  | [], off, l, h, _, _ => by simp [ckF] at h; subst h; simp [allCK]
  | f :: fs, off, l, h, hx, hl => by
    simp only [ckF] at h
    split at h <;> try (cases h; done)
    rename_i ho
    split at h <;> try (cases h; done)
    rename_i l1 h1
    split at h <;> try (cases h; done)
    rename_i hs
    split at h <;> try (cases h; done)
    rename_i r hr
    injection h with h; subst h
    have ho : f.offset = off := by simpa using ho
    have hs : l1.length = P.cellsOf f.type := by simpa using hs
    obtain ⟨x, hxx⟩ := hx f (by simp)
    have a1 := hrec _ _ h1 _ _ hxx
    simp only [List.length_append] at hl
    have a2 := ckF_ok hrec hr (fun f hf => hx f (by simp [hf])) (by omega)
    rw [ho, ← hs] at a1
    have := allCK_app a1 a2
    have e : (cs.drop off).take (l1 ++ r).length = (cs.drop off).take l1.length ++ (cs.drop (off + l1.length)).take r.length := by
      rw [List.length_append, List.take_add, List.drop_drop]
    rw [e]; exact this
theorem repL_ok {l : List CK} {cs : List Value} : ∀ (m : Nat), (∀ i, i < m → allCK enc P w base spare held l ((cs.drop (i * l.length)).take l.length)) → allCK enc P w base spare held (repL l m) (cs.take (m * l.length))
  | 0, _ => by simp [repL, allCK]
  | m + 1, h => by
    have := allCK_app (repL_ok m (fun i hi => h i (by omega))) (h m (by omega))
    have e : cs.take ((m + 1) * l.length) = cs.take (m * l.length) ++ (cs.drop (m * l.length)).take l.length := by
      rw [Nat.succ_mul, List.take_add]
    rw [e]; exact this
theorem trod_ck : ∀ (n : Nat) (t : TypeId) (l : List CK), ckB P n t = some l → ∀ (fuel : Nat) (cs : List Value) (x : DataW H × List MemPlace), DataW.trod enc P w base spare held fuel t cs = some x → allCK enc P w base spare held l cs
  | 0, _, _, h, _, _, _, _ => by cases h
  | n + 1, t, l, h, 0, cs, x, hx => by simp [DataW.trod] at hx
  | n + 1, t, l, h, fuel + 1, cs, x, hx => by
    simp only [ckB] at h
    split at h
    · rename_i k hu
      injection h with h; subst h
      simp only [DataW.trod, hu] at hx
      split at hx <;> simp_all [allCK, ckOk]
    · rename_i hu
      injection h with h; subst h
      simp only [DataW.trod, hu] at hx
      split at hx <;> simp_all [allCK, ckOk]
    · rename_i hu
      injection h with h; subst h
      simp only [DataW.trod, hu] at hx
      split at hx <;> simp_all [allCK, ckOk]
    · rename_i e hu
      injection h with h; subst h
      simp only [DataW.trod, hu] at hx
      split at hx <;> try (cases hx; done)
      all_goals try (simp_all; done)
      · exact ⟨⟨none, 0, 0, rfl, Nat.zero_le _, fun i hi => by omega⟩, trivial⟩
      · rename_i e' a len cap heq
        injection heq with heq; injection heq with heq; subst heq
        split at hx <;> try (cases hx; done)
        rename_i hb
        cases hm : (List.range len).mapM (fun i => (w.cells? base (a.add (i * P.cellsOf e)) (P.cellsOf e)).bind (DataW.trod enc P w base spare held fuel e)) with
        | none => rw [hm] at hx; cases hx
        | some elems =>
          refine ⟨⟨some a, len, cap, rfl, Nat.le_trans hb.2.1 hb.2.2, fun i hi => ?_⟩, trivial⟩
          obtain ⟨y, hy⟩ := mapM_some hm i (by simp; exact hi)
          obtain ⟨cs, h1, h2⟩ := Option.bind_eq_some_iff.1 hy
          exact ⟨a, cs, fuel, y, rfl, h1, h2⟩
    · rename_i fs hu
      split at h <;> try (cases h; done)
      rename_i l1 h1
      split at h <;> try (cases h; done)
      rename_i hs
      injection h with h; subst h
      have hs : l1.length = P.cellsOf t := by simpa using hs
      simp only [DataW.trod, hu] at hx
      split at hx <;> try (cases hx; done)
      rename_i hlen
      obtain ⟨xs, hxs, _⟩ := Option.map_eq_some_iff.1 hx
      have := ckF_ok (cs := cs) (fuel := fuel) (fun t l h cs x hx => trod_ck n t l h fuel cs x hx) h1 (fun f hf => mapM_some hxs f hf) (by omega)
      rw [List.drop_zero, hs, ← hlen, List.take_length] at this
      exact this
    · rename_i m e hu
      split at h <;> try (cases h; done)
      rename_i l1 h1
      split at h <;> try (cases h; done)
      rename_i hs
      injection h with h; subst h
      simp only [Bool.and_eq_true, beq_iff_eq] at hs
      simp only [DataW.trod, hu] at hx
      split at hx <;> try (cases hx; done)
      rename_i hlen
      obtain ⟨xs, hxs, _⟩ := Option.map_eq_some_iff.1 hx
      have := repL_ok (l := l1) (cs := cs) (enc := enc) (P := P) (w := w) (base := base) (spare := spare) (held := held) m (fun i hi => by
        obtain ⟨y, hy⟩ := mapM_some hxs i (by simp; exact hi)
        have := trod_ck n e l1 h1 fuel _ y hy
        rw [hs.1]; exact this)
      rw [hs.2, ← hlen, List.take_length] at this
      exact this
    · cases h
end
end Go.Vd
