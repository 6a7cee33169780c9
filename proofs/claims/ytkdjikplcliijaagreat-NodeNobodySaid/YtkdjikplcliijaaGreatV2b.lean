/-  The evaluator is sound, part 2b: slices. -/
import Derived.Test.YtkdjikplcliijaaGreatV2
import Derived.Laws.AppendOwn
import Derived.Laws.MakeOwn
namespace Go.Vd
section
variable {P : Program} {T : BT} {base : World} {F : List Nat} {env : Env} {hp : Hp} {vs : List MV} {a : Act} {w : World}

theorem bndSV_run {x : Option SV} {d m y : Nat} {code : BoundsCode} (h : bndSV x d = some m) (hle : m ≤ y) :
    (x = none ∧ m = d) ∨ ∃ u, x = some u ∧ (Instr.sliceBound u.den y code).run P w = .ok m w := by
  unfold bndSV at h
  split at h
  · injection h with h; exact .inl ⟨rfl, h.symm⟩
  · rename_i k n
    injection h with h; subst h
    exact .inr ⟨_, rfl, by simp [Instr.sliceBound, asIntOf, SV.den, hle]⟩
  · cases h

theorem bounds2 {lo hi : Option SV} {len cap l h : Nat} (h1 : bndSV lo 0 = some l) (h2 : bndSV hi len = some h) (hl : l ≤ h) (hh : h ≤ cap) :
    (Instr.sliceBounds true len cap (lo.map SV.den) (hi.map SV.den) none).run P w = .ok (l, h, cap) w := by
  unfold Instr.sliceBounds
  rcases bndSV_run (P := P) (w := w) (y := cap) (code := .sliceAcap) h2 hh with ⟨rfl, rfl⟩ | ⟨u, rfl, e2⟩ <;>
  rcases bndSV_run (P := P) (w := w) (y := h) (code := .sliceB) h1 hl with ⟨rfl, rfl⟩ | ⟨u', rfl, e1⟩
  · simp
  · simp [e1]
  · simp [e2]
  · simp [e1, e2]
theorem bounds3 {lo hi : Option SV} {k : IntKind} {len cap l h m : Nat} (h1 : bndSV lo 0 = some l) {hu : SV} (hhu : hi = some hu) (h2 : bndSV hi len = some h) (hl : l ≤ h) (hh : h ≤ m) (hm : m ≤ cap) :
    (Instr.sliceBounds true len cap (lo.map SV.den) (hi.map SV.den) (some (SV.it k (.ofNat m)).den)).run P w = .ok (l, h, m) w := by
  unfold Instr.sliceBounds
  have e3 : (Instr.sliceBound (SV.it k (.ofNat m)).den cap .slice3Acap).run P w = .ok m w := by simp [Instr.sliceBound, asIntOf, SV.den, hm]
  generalize (SV.it k (.ofNat m)).den = gm at e3 ⊢
  rcases bndSV_run (P := P) (w := w) (y := m) (code := .slice3B) h2 hh with ⟨hn, _⟩ | ⟨u, rfl, e2⟩
  · rw [hhu] at hn; cases hn
  rcases bndSV_run (P := P) (w := w) (y := h) (code := .slice3C) h1 hl with ⟨rfl, rfl⟩ | ⟨u', rfl, e1⟩
  · simp [e2, e3]
  · simp [e1, e2, e3]

theorem addr_add_zero (x : Addr) : x.add 0 = x := by
  unfold Addr.add; split <;> simp_all
theorem nilBnd_spec {x : Option SV} (h : nilBnd x = true) : x = none ∨ ∃ k, x = some (.it k (.ofNat 0)) := by
  unfold nilBnd at h
  split at h
  · exact .inl rfl
  · exact .inr ⟨_, rfl⟩
  · cases h

theorem sliceSV_run (hT : T.All (TiOk P)) {t : TypeId} {x v : SV} {lo hi mx : Option SV} {sd : List Sd} (h : sliceSV T t x lo hi mx = .val v sd) (hs : All sd) :
    (Instr.sliceAt t x.den (lo.map SV.den) (hi.map SV.den) (mx.map SV.den)).run P w = .ok v.den w := by
  unfold sliceSV at h
  split at h <;> try (cases h; done)
  rename_i ti hti
  split at h <;> try (cases h; done)
  rename_i es et hk
  obtain ⟨d, i, z, hu, hi', hsz, _, _, _, hkk, _⟩ := (hT.find hti).ex
  rw [hk] at hkk
  obtain ⟨rfl, he⟩ := hkk
  obtain ⟨ie, hie, hes⟩ := Option.map_eq_some_iff.1 he
  have hsize : (sizeOf et).run P w = .ok es w := by rw [run_sizeOf w hie, cellsOf_info hie, hes]
  have main : ∀ {A : Option Addr} {len cap l h m : Nat}, (Instr.sliceBounds true len cap (lo.map SV.den) (hi.map SV.den) (mx.map SV.den)).run P w = .ok (l, h, m) w →
      (Instr.sliceAt t (.slice A len cap) (lo.map SV.den) (hi.map SV.den) (mx.map SV.den)).run P w = .ok (.slice (if m = l then A else A.map (·.add (l * es))) (h - l) (m - l)) w := by
    intro A len cap l h m hb
    simp [Instr.sliceAt, Instr.slice, run_underlying hu, hb, hsize]
  split at h
  · -- nil
    split at h <;> try (cases h; done)
    split at h <;> try (cases h; done)
    rename_i hn
    injection h with h1 h2; subst h1
    simp only [Bool.and_eq_true] at hn
    obtain ⟨n1, n2⟩ := hn
    have := main (A := none) (len := 0) (cap := 0) (l := 0) (h := 0) (m := 0) (by
      unfold Instr.sliceBounds
      rcases nilBnd_spec n1 with rfl | ⟨k1, rfl⟩ <;> rcases nilBnd_spec n2 with rfl | ⟨k2, rfl⟩ <;> simp [Instr.sliceBound, asIntOf, SV.den])
    simpa [SV.den] using this
  · rename_i bk c off len ex
    split at h <;> try (cases h; done)
    rename_i l hl
    split at h <;> try (cases h; done)
    rename_i hh' hh
    split at h
    · unfold cutSV at h
      split at h <;> try (cases h; done)
      rename_i hlh
      have hlh : l ≤ hh' := Nat.le_of_ble_eq_true hlh
      split at h
      · rename_i n
        split at h <;> try (cases h; done)
        rename_i hle
        have hle : hh' ≤ len + n := Nat.le_of_ble_eq_true hle
        have := main (A := some ⟨bk, off, none⟩) (bounds2 (P := P) (w := w) (cap := len + n) hl hh hlh hle)
        split at h
        · rename_i he
          have he : len + n = l := Nat.eq_of_beq_eq_true he
          injection h with h1 h2; subst h1
          have e1 : hh' - l = 0 := by omega
          simpa [SV.den, Ex.val, he, e1] using this
        · rename_i he
          have he : len + n ≠ l := fun e => by rw [e] at he; simp at he
          split at h <;> try (cases h; done)
          rename_i q hq
          have hq := addO_eq hq; subst hq
          injection h with h1 h2; subst h1
          have e1 : len + n - l = (hh' - l) + (len + n - hh') := by omega
          simpa [SV.den, Ex.val, he, add_plain, ← e1] using this
      · rename_i x
        split at h <;> try (cases h; done)
        rename_i hle
        have hle : hh' ≤ len := Nat.le_of_ble_eq_true hle
        have := main (A := some ⟨bk, off, none⟩) (bounds2 (P := P) (w := w) (cap := len + x) hl hh hlh (by omega))
        split at h
        · rename_i he
          have he : len = l := Nat.eq_of_beq_eq_true he
          injection h with h1 h2; subst h1
          have e1 : hh' - l = 0 := by omega
          have e2 : len + x - l = x := by omega
          have e3 : (len + x = l) = (x = 0) := by apply propext; omega
          simp only [e1, e2, e3] at this
          simp only [SV.den, Ex.val]
          rw [this]
          congr 2
          split <;> simp [add_plain]
        · rename_i he
          have he : len ≠ l := fun e => by rw [e] at he; simp at he
          split at h <;> try (cases h; done)
          rename_i q hq
          have hq := addO_eq hq; subst hq
          have e3 : ¬ (len + x = l) := by omega
          split at h
          · rename_i hb
            have hb : hh' = len := Nat.eq_of_beq_eq_true hb
            injection h with h1 h2; subst h1
            have e1 : len + x - l = (hh' - l) + x := by omega
            simpa [SV.den, Ex.val, e3, add_plain, ← e1] using this
          · injection h with h1 h2; subst h1
            have e1 : len + x - l = (hh' - l) + (len - hh' + x) := by omega
            simpa [SV.den, Ex.val, e3, add_plain, ← e1] using this
    · rename_i k m
      split at h <;> try (cases h; done)
      rename_i hu'
      unfold cut3SV at h
      split at h <;> try (cases h; done)
      rename_i h1
      split at h <;> try (cases h; done)
      rename_i h2
      split at h <;> try (cases h; done)
      rename_i h3
      have h1 := Nat.le_of_ble_eq_true h1
      have h2 := Nat.le_of_ble_eq_true h2
      have h3 := Nat.le_of_ble_eq_true h3
      have := main (A := some ⟨bk, off, none⟩) (bounds3 (P := P) (w := w) (k := k) (cap := len + ex.val) hl rfl hh h1 h2 (by omega))
      split at h
      · rename_i he
        have he : m = l := Nat.eq_of_beq_eq_true he
        injection h with g1 g2; subst g1
        have e1 : hh' - l = 0 := by omega
        simpa [SV.den, Ex.val, he, e1] using this
      · rename_i he
        have he : m ≠ l := fun e => by rw [e] at he; simp at he
        split at h <;> try (cases h; done)
        rename_i q hq
        have hq := addO_eq hq; subst hq
        injection h with g1 g2; subst g1
        have e1 : m - l = (hh' - l) + (m - hh') := by omega
        simpa [SV.den, Ex.val, he, add_plain, ← e1] using this
    · cases h
  · rename_i A c len cap
    split at h <;> try (cases h; done)
    split at h <;> try (cases h; done)
    split at h <;> try (cases h; done)
    · injection h with h1 h2; subst h1
      have := main (A := A) (len := len) (cap := cap) (l := 0) (h := len) (m := cap) (by unfold Instr.sliceBounds; simp)
      have hz : (if cap = 0 then A else A.map (fun x => x.add (0 * es))) = A := by
        rw [Nat.zero_mul]; cases A <;> simp [addr_add_zero]
      simp only [hz] at this
      simpa [SV.den] using this
    · rename_i k n
      injection h with h1 h2; subst h1; subst h2
      obtain ⟨⟨g1, g2⟩, _⟩ := hs
      have := main (A := A) (len := len) (cap := cap) (l := 0) (h := n.toNat) (m := cap) (by unfold Instr.sliceBounds; simp [Instr.sliceBound, asIntOf, SV.den, g1, g2])
      have hz : (if cap = 0 then A else A.map (fun x => x.add (0 * es))) = A := by
        rw [Nat.zero_mul]; cases A <;> simp [addr_add_zero]
      simp only [hz] at this
      simpa [SV.den] using this
  · cases h
end
end Go.Vd
