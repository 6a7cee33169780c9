/-  The evaluator is sound, part 2e: copy, clear, make, index. -/
import Derived.Test.YtkdjikplcliijaaGreatV2d
namespace Go.Vd
section
variable {P : Program} {T : BT} {base : World} {F : List Nat} {env : Env} {hp : Hp} {vs : List MV} {a : Act} {w : World}

/-- cells written at a place of a known block -/
theorem write_ok (ok : OK base F env hp vs a w) {hp' : Hp} {c bk r off : Nat} {cs cs' ws : List SV} (hk : getK hp c = some (bk, .cells cs r)) (h1 : allOne ws = true) (hp1 : putN off ws cs = some cs') (hs : setK hp c (.cells cs' r) = some hp') :
    ∃ w', (storeCells ⟨bk, off, none⟩ (SV.dens ws)).run P w = .ok () w' ∧ OK base F env hp' vs a w' := by
  obtain ⟨E, rest, hr, hE⟩ := ok.heap _ _ _ (getK_mem hk)
  obtain ⟨p1, p2⟩ := putN_den hp1
  have hst := run_storeCells_at P bk off E (SV.dens ws) 0 (SV.dens cs ++ rest).toArray w hE (by simp [dens_length]; omega) (allOne_spec h1)
  have hcells : ((SV.dens cs ++ rest).take off ++ SV.dens ws ++ (SV.dens cs ++ rest).drop (off + ws.length)) = SV.dens cs' ++ rest := by
    rw [p2, List.take_append_of_le_length (by rw [dens_length]; omega), List.drop_append_of_le_length (by rw [dens_length]; omega)]
    simp
  simp only [Nat.add_zero, dens_length] at hst
  rw [hcells] at hst
  exact ⟨_, hst, store_ok ok hk hr hE hs⟩

theorem copySV_run (hT : T.All (TiOk P)) (ok : OK base F env hp vs a w) {t t' ty : TypeId} {d y v : SV} {hp' : Hp} {sd : List Sd} (hs : All sd) :
    (copySV T hp t d y = .val v sd → (Builtin.copy_ #[t, t'] ty #[d.den, y.den]).run P w = .ok v.den w) ∧
    (copySV T hp t d y = .eff v hp' sd → ∃ w', (Builtin.copy_ #[t, t'] ty #[d.den, y.den]).run P w = .ok v.den w' ∧ OK base F env hp' vs a w') := by
  have pre : ∀ {r : OR}, copySV T hp t d y = r → r ≠ .stop → ∃ ti es et n news sd1, T.find t = some ti ∧ ti.kind = .slice es et ∧ elemsOf hp es y = some (n, news, sd1) ∧ P.underlying t = some (.slice et) ∧ (sizeOf et).run P w = .ok es w := by
    intro r h hr
    unfold copySV at h
    split at h <;> try (exact absurd h.symm hr)
    rename_i ti hti
    split at h <;> try (exact absurd h.symm hr)
    rename_i es et hk
    split at h <;> try (exact absurd h.symm hr)
    rename_i n news sd1 hy
    obtain ⟨d, i, z, hu, hi, hsz, _, _, _, hkk, _⟩ := (hT.find hti).ex
    rw [hk] at hkk
    obtain ⟨rfl, he⟩ := hkk
    obtain ⟨ie, hie, hes⟩ := Option.map_eq_some_iff.1 he
    exact ⟨ti, es, et, n, news, sd1, hti, hk, hy, hu, by rw [run_sizeOf w hie, cellsOf_info hie, hes]⟩
  constructor
  · intro h
    obtain ⟨ti, es, et, n, news, sd1, hti, hk, hy, hu, hsz⟩ := pre h (by simp)
    simp only [copySV, hti, hk, hy] at h
    split at h <;> try (cases h; done)
    · injection h with h1 h2; subst h1; subst h2
      obtain ⟨h1, A', cap', h2, h3, h4⟩ := elemsOf_spec ok.heap hy hs
      have hf := firstCells_spec (P := P) (m := 0) ok.heap hy hs (Nat.zero_le _)
      rw [h2] at hf ⊢
      simp only [Nat.zero_mul] at hf
      simp [Builtin.copy_, run_underlying hu, hsz, SV.den, Builtin.lenOf, hf, goInt, Nat.min_def]
    · split at h
      · split at h <;> try (cases h; done)
        split at h <;> try (cases h; done)
        split at h <;> try (cases h; done)
        split at h <;> try (cases h; done)
      · split at h <;> try (cases h; done)
        split at h <;> try (cases h; done)
        split at h <;> try (cases h; done)
        split at h <;> try (cases h; done)
        split at h <;> try (cases h; done)
  · intro h
    obtain ⟨ti, es, et, n, news, sd1, hti, hk, hy, hu, hsz⟩ := pre h (by simp)
    simp only [copySV, hti, hk, hy] at h
    split at h <;> try (cases h; done)
    rename_i bk c off len ex
    split at h
    · rename_i hle
      have hle := Nat.le_of_ble_eq_true hle
      split at h <;> try (cases h; done)
      rename_i bk' cs r hgk
      split at h <;> try (cases h; done)
      rename_i hone
      split at h <;> try (cases h; done)
      rename_i cs' hcs
      split at h <;> try (cases h; done)
      rename_i hp1 hsk
      injection h with h1 h2 h3; subst h1; subst h2; subst h3
      obtain ⟨hb, hs⟩ := hs
      have hb : bk = bk' := hb
      subst hb
      obtain ⟨h1, A', cap', h2, h3, h4⟩ := elemsOf_spec ok.heap hy hs
      have hf := firstCells_spec (P := P) ok.heap hy hs (Nat.le_refl _)
      rw [take_len h1, h2] at hf
      obtain ⟨w', g1, g2⟩ := write_ok (P := P) ok hgk hone hcs hsk
      refine ⟨w', ?_, g2⟩
      rw [h2]
      have hmin : Nat.min n len = n := Nat.min_eq_left hle
      simp [Builtin.copy_, run_underlying hu, hsz, SV.den, Builtin.lenOf, goInt, hmin, hf, g1]
    · rename_i hle
      have hle : len ≤ n := by
        rcases Nat.le_total n len with h' | h'
        · rw [show Nat.ble n len = true from by rw [Nat.ble_eq]; exact h'] at hle; cases hle
        · exact h'
      split at h <;> try (cases h; done)
      rename_i news' htk
      split at h <;> try (cases h; done)
      rename_i bk' cs r hgk
      split at h <;> try (cases h; done)
      rename_i hone
      split at h <;> try (cases h; done)
      rename_i cs' hcs
      split at h <;> try (cases h; done)
      rename_i hp1 hsk
      injection h with h1 h2 h3; subst h1; subst h2; subst h3
      obtain ⟨hb, hs⟩ := hs
      have hb : bk = bk' := hb
      subst hb
      obtain ⟨e1, e2⟩ := takeN_spec htk
      obtain ⟨h1, A', cap', h2, h3, h4⟩ := elemsOf_spec ok.heap hy hs
      have hf := firstCells_spec (P := P) ok.heap hy hs hle
      rw [h2, ← e1] at hf
      obtain ⟨w', g1, g2⟩ := write_ok (P := P) ok hgk hone hcs hsk
      refine ⟨w', ?_, g2⟩
      rw [h2]
      have hmin : Nat.min n len = len := Nat.min_eq_right hle
      simp [Builtin.copy_, run_underlying hu, hsz, SV.den, Builtin.lenOf, goInt, hmin, hf, g1]

theorem clearSV_run (hT : T.All (TiOk P)) (ok : OK base F env hp vs a w) {t ty : TypeId} {d v : SV} {hp' : Hp} {sd : List Sd} (hs : All sd) :
    (clearSV T hp t d = .val v sd → (Builtin.clear_ #[t] ty #[d.den]).run P w = .ok v.den w) ∧
    (clearSV T hp t d = .eff v hp' sd → ∃ w', (Builtin.clear_ #[t] ty #[d.den]).run P w = .ok v.den w' ∧ OK base F env hp' vs a w') := by
  constructor
  · intro h
    unfold clearSV at h
    split at h <;> try (cases h; done)
    rename_i ti hti
    split at h <;> try (cases h; done)
    rename_i es et hk
    obtain ⟨_, i, z, hu, hi, hsz, _, _, _, hkk, _⟩ := (hT.find hti).ex
    rw [hk] at hkk
    obtain ⟨rfl, he⟩ := hkk
    split at h <;> try (cases h; done)
    · injection h with h1 h2; subst h1
      simp [Builtin.clear_, run_underlying hu, SV.den, SV.dens]
    · repeat' (split at h <;> try (cases h; done))
  · intro h
    unfold clearSV at h
    split at h <;> try (cases h; done)
    rename_i ti hti
    split at h <;> try (cases h; done)
    rename_i es et hk
    obtain ⟨_, i, z, hu, hi, hsz, _, _, _, hkk, _⟩ := (hT.find hti).ex
    rw [hk] at hkk
    obtain ⟨rfl, he⟩ := hkk
    split at h <;> try (cases h; done)
    rename_i bk c off len ex
    split at h <;> try (cases h; done)
    rename_i te hte
    split at h <;> try (cases h; done)
    rename_i zs hzs
    split at h <;> try (cases h; done)
    rename_i hone
    split at h <;> try (cases h; done)
    rename_i bk' cs r hgk
    split at h <;> try (cases h; done)
    rename_i cs' hcs
    split at h <;> try (cases h; done)
    rename_i hp1 hsk
    injection h with h1 h2 h3; subst h1; subst h2; subst h3
    obtain ⟨hb, hs⟩ := hs
    have hb : bk = bk' := hb
    subst hb
    obtain ⟨w', g1, g2⟩ := write_ok (P := P) ok hgk hone hcs hsk
    obtain ⟨d2, i2, z2, hu2, hi2, hsz2, hz2, hzc2, _, _, hzl, hby⟩ := (hT.find hte).ex
    have hc : z2.cells = (SV.dens te.zero).toArray := by rw [← hzc2]
    have hz0 : (zeroValue et).run P w = .ok z2 w := by simp [zeroValue, typeInfo, hi2, hz2]
    have hzc : (Builtin.zeroCells z2.cells len).toList = SV.dens zs := by
      rw [zerosN_den hzs]
      have := zeros_array (SV.dens te.zero) len
      unfold Builtin.zeroCells
      rw [hc]
      exact congrArg Array.toList this
    refine ⟨w', ?_, g2⟩
    cases len with
    | zero =>
      have hzn : zs = [] := by simp [zerosN] at hzs; exact hzs
      subst hzn
      simp [SV.dens, storeCells] at g1
      simp [Builtin.clear_, run_underlying hu, SV.den, SV.dens, g1]
    | succ m =>
      simp [Builtin.clear_, run_underlying hu, SV.den, SV.dens, hz0, hzc, g1]

theorem ifaceSV_run (hT : T.All (TiOk P)) {t : TypeId} {x v : SV} {sd : List Sd} (h : ifaceSV T t x = .val v sd) : (Instr.makeInterface t x.den).run P w = .ok v.den w := by
  unfold ifaceSV at h
  split at h <;> try (cases h; done)
  rename_i ti hti
  split at h <;> try (cases h; done)
  rename_i hk
  obtain ⟨_, i, z, hu, hi, hsz, _, _, _, hkk, _⟩ := (hT.find hti).ex
  rw [hk] at hkk
  obtain ⟨e, rfl⟩ := hkk
  injection h with h1 h2; subst h1
  simp [Instr.makeInterface, run_underlying hu, SV.den]

theorem idxSV_run (hT : T.All (TiOk P)) {t : TypeId} {x i v : SV} {sd : List Sd} (h : idxSV T t x i = .val v sd) : (Instr.index t x.den i.den).run P w = .ok v.den w := by
  unfold idxSV at h
  split at h <;> try (cases h; done)
  rename_i ti hti
  split at h <;> try (cases h; done)
  · rename_i hk
    obtain ⟨d, inf, z, hu, hi, hsz, _, _, _, hkk, _⟩ := (hT.find hti).ex
    rw [hk] at hkk
    have hkk : d = .string := hkk
    subst hkk
    split at h <;> try (cases h; done)
    rename_i b k m
    split at h <;> try (cases h; done)
    rename_i c hc
    injection h with h1 h2; subst h1
    rw [nth_eq] at hc
    have hg : b[m]? = some c := by
      rw [Array.getElem?_toList] at hc
      obtain ⟨hlt, he⟩ := Array.getElem?_eq_some_iff.1 hc
      have hlt' : m < b.size := hlt
      rw [getElem?_pos b m hlt']
      congr 1
    simp [Instr.index, run_underlying hu, SV.den, asIntOf, hg]
  rename_i len es one hk
  obtain ⟨_, inf, z, hu, hi, hsz, _, _, _, hkk, _⟩ := (hT.find hti).ex
  rw [hk] at hkk
  obtain ⟨e, rfl, he, de, hde, hagg⟩ := hkk
  obtain ⟨ie, hie, hes⟩ := Option.map_eq_some_iff.1 he
  have hsize : (sizeOf e).run P w = .ok es w := by rw [run_sizeOf w hie, cellsOf_info hie, hes]
  split at h <;> try (cases h; done)
  rename_i l k m
  split at h <;> try (cases h; done)
  rename_i hlt
  have hlt : m < len := by rw [Nat.blt_eq] at hlt; exact hlt
  split at h <;> try (cases h; done)
  rename_i r hr
  split at h <;> try (cases h; done)
  rename_i u hu2
  injection h with h1 h2; subst h1
  obtain ⟨e1, e2⟩ := takeN_spec hr
  rw [dropN_eq] at e1
  have hag : (isAgg e).run P w = .ok (!one) w := by
    unfold isAgg
    simp [run_underlying hde]
    rw [hagg]
    cases de <;> rfl
  have hlen : m * es + es ≤ l.length ∨ es = 0 := by
    rcases Nat.eq_zero_or_pos es with h0 | h0
    · exact .inr h0
    · left
      have := congrArg List.length e1
      simp only [List.length_take, List.length_drop] at this
      omega
  rcases packAs_spec hu2 with ⟨ha, rfl⟩ | ⟨ha, rfl⟩
  · have hone : one = false := by simpa using ha
    subst hone
    have hx : List.take es (List.drop (m * es) (SV.dens l)) = SV.dens r := by
      rw [e1]
      simp [dens_map, List.map_take, List.map_drop]
    simp [Instr.index, run_underlying hu, SV.den, asIntOf, hlt, part, hag, hsize, hx]
  · have hone : one = true := by simpa using ha
    subst hone
    have he1 : es = 1 := by simpa using e2.symm
    subst he1
    have hg : l[m]? = some u := by
      have := congrArg (fun q => q[0]?) e1
      simp at this
      rw [← this]
    simp [Instr.index, run_underlying hu, SV.den, asIntOf, hlt, part, hag, hsize, dens_map, hg]
end
end Go.Vd
