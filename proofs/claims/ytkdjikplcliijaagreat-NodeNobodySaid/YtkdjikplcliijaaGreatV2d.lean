/-  The evaluator is sound, part 2d: append, copy, clear, make, index. -/
import Derived.Test.YtkdjikplcliijaaGreatV2c
import Derived.Laws.AppendOwn
import Derived.Laws.MakeOwn
namespace Go.Vd
section
variable {P : Program} {T : BT} {base : World} {F : List Nat} {env : Env} {hp : Hp} {vs : List MV} {a : Act} {w : World}

/-- the elements of a slice, in memory -/
theorem elemsOf_spec {es n : Nat} {y : SV} {news : List SV} {sd : List Sd} (hh : okHp hp w) (h : elemsOf hp es y = some (n, news, sd)) (hs : All sd) :
    news.length = n * es ∧ ∃ A cap, y.den = .slice A n cap ∧ (A = none → n = 0 ∧ cap = 0) ∧ ∀ ad, A = some ad → ∀ j v, (SV.dens news)[j]? = some v → w.cell? (ad.add j) = some v := by
  unfold elemsOf at h
  split at h <;> try (cases h; done)
  · injection h with h; injection h with h1 h; injection h with h2 h3; subst h1; subst h2
    exact ⟨by simp, none, 0, rfl, by simp, by simp⟩
  · rename_i bk c off len ex
    split at h <;> try (cases h; done)
    rename_i bk' cs r hk
    split at h <;> try (cases h; done)
    rename_i l hl
    injection h with h; injection h with h1 h; injection h with h2 h3; subst h1; subst h2; subst h3
    obtain ⟨hb, _⟩ := hs
    have hb : bk = bk' := hb
    obtain ⟨e1, e2⟩ := takeN_spec hl
    refine ⟨e2, _, _, rfl, by simp, fun ad ha j v hv => ?_⟩
    injection ha with ha; subst ha
    rw [add_plain, hb]
    simp only [dens_map, List.getElem?_map, Option.map_eq_some_iff] at hv
    obtain ⟨y, hy, rfl⟩ := hv
    rw [e1, dropN_eq] at hy
    simp only [List.getElem?_take, List.getElem?_drop] at hy
    split at hy
    · exact chOk_get (hh _ _ _ (getK_mem hk)) hy
    · cases hy
theorem firstCells_spec {es n m : Nat} {y : SV} {news : List SV} {sd : List Sd} (hh : okHp hp w) (h : elemsOf hp es y = some (n, news, sd)) (hs : All sd) (hm : m ≤ n) :
    (Builtin.firstCells es m y.den).run P w = .ok (SV.dens (news.take (m * es))).toArray w := by
  obtain ⟨h1, A, cap, h2, h3, h4⟩ := elemsOf_spec hh h hs
  rw [h2]
  cases A with
  | none =>
    obtain ⟨rfl, _⟩ := h3 rfl
    have : m = 0 := by omega
    subst this
    simp [Builtin.firstCells, SV.dens]
  | some ad =>
    refine run_firstCells_some w es m ad n cap _ ?_ (fun j v hv => h4 ad rfl j v ?_)
    · rw [dens_length, List.length_take, h1]
      exact Nat.min_eq_left (Nat.mul_le_mul_right _ hm)
    · simp only [dens_map, List.map_take, List.getElem?_take] at hv ⊢
      split at hv
      · exact hv
      · cases hv
theorem lenOf_spec {A : Option Addr} {n cap : Nat} : (Builtin.lenOf (.slice A n cap)).run P w = .ok n w := rfl

theorem growBy_le (n : Nat) : ∀ (k c : Nat), c ≤ n + (n + 768) / 4 → Builtin.growBy n k c ≤ n + (n + 768) / 4
  | 0, c, h => by simpa [Builtin.growBy] using h
  | k + 1, c, h => by
    simp only [Builtin.growBy]
    split
    · exact h
    · exact growBy_le n k _ (by omega)
theorem nextslicecap_le {need cap : Nat} (h : cap < need) : Builtin.nextslicecap need cap ≤ 2 * need + 192 := by
  unfold Builtin.nextslicecap
  split
  · omega
  · split
    · omega
    · exact Nat.le_trans (growBy_le need 4 cap (by omega)) (by omega)
theorem fitsB_spec {n bytes : Nat} (h : fitsB n bytes = true) : 0 < bytes ∧ (2 * n + 192) * bytes ≤ 140737488355328 := by
  unfold fitsB at h
  split at h
  · rename_i h0
    rw [Nat.blt_eq] at h0
    exact ⟨h0, Nat.le_of_ble_eq_true h⟩
  · cases h
theorem fits_more {n bytes : Nat} (h : fitsB n bytes = true) : 0 < bytes ∧ ((n : Nat) : Int) ≤ 9223372036854775807 ∧ n * bytes ≤ 140737488355328 ∧ ∀ cap, cap < n → Builtin.nextslicecap n cap * bytes ≤ 281474976710656 := by
  obtain ⟨h1, h2⟩ := fitsB_spec h
  have h3 : n * bytes ≤ (2 * n + 192) * bytes := Nat.mul_le_mul_right _ (by omega)
  have h4 : n ≤ n * bytes := Nat.le_mul_of_pos_right _ h1
  refine ⟨h1, by omega, by omega, fun cap hc => ?_⟩
  have h5 : Builtin.nextslicecap n cap * bytes ≤ (2 * n + 192) * bytes := Nat.mul_le_mul_right _ (nextslicecap_le hc)
  omega

/-- what append is told of its types -/
theorem slice_types (hT : T.All (TiOk P)) {t : TypeId} {ti te : TI} {es et : Nat} (hti : T.find t = some ti) (hk : ti.kind = .slice es et) (hte : T.find et = some te) (hse : te.size = es) :
    P.underlying t = some (.slice et) ∧ ∃ i z, P.info? et = some i ∧ i.zero = some z ∧ i.size = es ∧ i.bytes = te.bytes ∧ z.cells = (SV.dens te.zero).toArray ∧ te.zero.length = es := by
  obtain ⟨d, i, z, hu, hi, hsz, _, _, _, hkk, _⟩ := (hT.find hti).ex
  rw [hk] at hkk
  obtain ⟨rfl, _⟩ := hkk
  obtain ⟨d2, i2, z2, hu2, hi2, hsz2, hz2, hzc2, _, _, hzl, hby⟩ := (hT.find hte).ex
  exact ⟨hu, i2, z2, hi2, hz2, by omega, hby, by rw [← hzc2], by omega⟩

theorem appPlan_val (hT : T.All (TiOk P)) (ok : OK base F env hp vs a w) {t ty : TypeId} {s y v : SV} {sd : List Sd} (h : appPlan T hp t s y = .val v sd) (hs : All sd) :
    (Builtin.append_ #[t, t] ty #[s.den, y.den]).run P w = .ok v.den w := by
  unfold appPlan at h
  split at h <;> try (cases h; done)
  rename_i ti hti
  split at h <;> try (cases h; done)
  rename_i es et hk
  split at h <;> try (cases h; done)
  rename_i te hte
  split at h <;> try (cases h; done)
  rename_i hse
  have hse := Nat.eq_of_beq_eq_true hse
  split at h <;> try (cases h; done)
  rename_i n news sd1 hy
  split at h <;> try (cases h; done)
  split at h
  · rename_i hn
    have hn := Nat.eq_of_beq_eq_true hn
    subst hn
    obtain ⟨hu, i, z, hi, hz, hsz, hby, hzc, hzl⟩ := slice_types hT hti hk hte hse
    have key : sd = sd1 → ∀ {A : Option Addr} {len cap : Nat}, (A = none → len = 0 ∧ cap = 0) → len ≤ cap → s.den = .slice A len cap → (Builtin.append_ #[t, t] ty #[s.den, y.den]).run P w = .ok (.slice A len cap) w := by
      intro e A len cap hA hlc hsd
      subst e
      obtain ⟨h1, A', cap', h2, h3, h4⟩ := elemsOf_spec ok.heap hy hs
      have hf := firstCells_spec (P := P) ok.heap hy hs (Nat.le_refl _)
      have hnil : news = [] := List.eq_nil_of_length_eq_zero (by rw [h1]; simp)
      subst hnil
      rw [h2] at hf ⊢
      rw [hsd]
      have hsizeet : (sizeOf et).run P w = .ok es w := by rw [run_sizeOf w hi, cellsOf_info hi, hsz]
      cases A with
      | none => obtain ⟨rfl, rfl⟩ := hA rfl; simp [Builtin.append_, run_underlying hu, hsizeet, Builtin.lenOf, hf]
      | some ad => simp [Builtin.append_, run_underlying hu, hsizeet, Builtin.lenOf, hf, hlc, SV.dens, storeCells]
    split at h <;> try (cases h; done)
    · injection h with h1 h2; subst h1
      exact key h2.symm (A := none) (by simp) (by omega) rfl
    · injection h with h1 h2; subst h1
      exact key h2.symm (by simp) (by omega) rfl
  · unfold appTo at h
    repeat' (split at h <;> try (cases h; done))

theorem take_len {l : List SV} {n : Nat} (h : l.length = n) : l.take n = l := by rw [← h]; simp

theorem appPlan_put (hT : T.All (TiOk P)) (ok : OK base F env hp vs a w) {t ty : TypeId} {s y v : SV} {hp' : Hp} {sd : List Sd} (h : appPlan T hp t s y = .put v hp' sd) (hs : All sd) :
    ∃ w', (Builtin.append_ #[t, t] ty #[s.den, y.den]).run P w = .ok v.den w' ∧ OK base F env hp' vs a w' := by
  unfold appPlan at h
  split at h <;> try (cases h; done)
  rename_i ti hti
  split at h <;> try (cases h; done)
  rename_i es et hk
  split at h <;> try (cases h; done)
  rename_i te hte
  split at h <;> try (cases h; done)
  rename_i hse
  have hse := Nat.eq_of_beq_eq_true hse
  split at h <;> try (cases h; done)
  rename_i n news sd1 hy
  split at h <;> try (cases h; done)
  rename_i hone
  split at h
  · split at h <;> try (cases h; done)
  · rename_i hn
    have hn : n ≠ 0 := fun e => by rw [e] at hn; simp at hn
    obtain ⟨hu, i, z, hi, hz, hsz, hby, hzc, hzl⟩ := slice_types hT hti hk hte hse
    unfold appTo at h
    split at h <;> try (cases h; done)
    · split at h <;> try (cases h; done)
    · rename_i bk c off len ex
      split at h <;> try (cases h; done)
      rename_i bk' cs r hgk
      split at h <;> try (cases h; done)
      split at h
      · rename_i m
        split at h
        · rename_i hle
          have hle := Nat.le_of_ble_eq_true hle
          split at h <;> try (cases h; done)
          rename_i q hq
          have hq := addO_eq hq; subst hq
          split at h <;> try (cases h; done)
          rename_i cs' hcs
          split at h <;> try (cases h; done)
          rename_i hp1 hsk
          injection h with h1 h2 h3; subst h1; subst h2; subst h3
          obtain ⟨hb, hs⟩ := hs
          have hb : bk = bk' := hb
          subst hb
          obtain ⟨E, rest, hr, hE⟩ := ok.heap _ _ _ (getK_mem hgk)
          obtain ⟨p1, p2⟩ := putN_den hcs
          obtain ⟨h1, A', cap', h2, h3, h4⟩ := elemsOf_spec ok.heap hy hs
          have hf := firstCells_spec (P := P) ok.heap hy hs (Nat.le_refl _)
          rw [take_len h1] at hf
          have hst := run_storeCells_at P bk (off + len * es) E (SV.dens news) 0 (SV.dens cs ++ rest).toArray w hE (by simp [dens_length]; omega) (allOne_spec hone)
          refine ⟨_, ?_, store_ok ok hgk hr hE hsk⟩
          have hsizeet : (sizeOf et).run P w = .ok es w := by rw [run_sizeOf w hi, cellsOf_info hi, hsz]
          have hadd : (⟨bk, off, none⟩ : Addr).add (len * es) = ⟨bk, off + len * es, none⟩ := add_plain _ _ _
          have hcells : ((SV.dens cs ++ rest).take (off + len * es) ++ SV.dens news ++ (SV.dens cs ++ rest).drop (off + len * es + news.length)) = SV.dens cs' ++ rest := by
            rw [p2, List.take_append_of_le_length (by rw [dens_length]; omega), List.drop_append_of_le_length (by rw [dens_length]; omega)]
            simp
          simp only [Nat.add_zero, dens_length, List.toList_toArray] at hst
          rw [hcells] at hst
          have hroom : len + n ≤ len + m := by omega
          have hex : len + n + (m - n) = len + m := by omega
          rw [h2] at hf
          simp [Builtin.append_, run_underlying hu, hsizeet, SV.den, Ex.val, h2, Builtin.lenOf, hle, hf, hadd, hst, hex]
        · split at h <;> try (cases h; done)
          split at h <;> try (cases h; done)
      · split at h <;> try (cases h; done)
        split at h <;> try (cases h; done)
        split at h <;> try (cases h; done)

theorem grown_ge (w : World) (need old : Nat) (e : TypeId) : need ≤ grownCap w need old e := grownCap_ge w need old e
theorem zeroCells_toList (z : Array Value) (n : Nat) : (Builtin.zeroCells z n).toList.length = n * z.size := by simp [Builtin.zeroCells]

theorem appPlan_lay (hT : T.All (TiOk P)) (ok : OK base F env hp vs a w) {t ty : TypeId} {s y : SV} {n es : Nat} {l : List SV} {hp0 : Hp} {sd : List Sd} (h : appPlan T hp t s y = .lay n es l hp0 sd) (hs : All sd) :
    ∃ B X w', (Builtin.append_ #[t, t] ty #[s.den, y.den]).run P w = .ok (.slice (some ⟨B, 0, none⟩) n (n + X)) w' ∧ ∀ k, OK base F env ((k, B, .cells l (X * es)) :: hp0) vs a w' := by
  unfold appPlan at h
  split at h <;> try (cases h; done)
  rename_i ti hti
  split at h <;> try (cases h; done)
  rename_i es' et hk
  split at h <;> try (cases h; done)
  rename_i te hte
  split at h <;> try (cases h; done)
  rename_i hse
  have hse := Nat.eq_of_beq_eq_true hse
  split at h <;> try (cases h; done)
  rename_i n' news sd1 hy
  split at h <;> try (cases h; done)
  rename_i hone
  split at h
  · split at h <;> try (cases h; done)
  · rename_i hn
    have hn : n' ≠ 0 := fun e => by rw [e] at hn; simp at hn
    obtain ⟨hu, i, z, hi, hz, hsz, hby, hzc, hzl⟩ := slice_types hT hti hk hte hse
    subst hsz
    have hzs : z.cells.size = i.size := by rw [hzc]; simp [dens_length, hzl]
    -- laid anew, behind the elder ones
    have grow : ∀ {olds : List SV} {len cap : Nat} {ad : Addr} {A' : Addr} {cap' : Nat}, olds.length = len * i.size → (∀ j v, (SV.dens olds)[j]? = some v → w.cell? (ad.add j) = some v) → cap < len + n' → fitsB (len + n') te.bytes = true →
        news.length = n' * i.size → (∀ j v, (SV.dens news)[j]? = some v → w.cell? (A'.add j) = some v) →
        ∃ X w', (Builtin.append_ #[t, t] ty #[.slice (some ad) len cap, .slice (some A') n' cap']).run P w = .ok (.slice (some ⟨w.heap.size, 0, none⟩) (len + n') (len + n' + X)) w' ∧
          ∀ k, OK base F env ((k, w.heap.size, .cells (olds ++ news) (X * i.size)) :: hp) vs a w' := by
      intro olds len cap ad A' cap' hl1 hl2 hc hfit hl3 hl4
      obtain ⟨f1, f2, f3, f4⟩ := fits_more hfit
      have hr := run_append_grow (P := P) w t ty et i z hu hi hz ad len cap (SV.dens olds) (by rw [dens_length, hl1]) hl2 A' n' cap' (SV.dens news) (by rw [dens_length, hl3]) hl4 hc f2 (by rw [hby]; exact f4 cap hc)
      have hg := grown_ge w (len + n') cap et
      refine ⟨grownCap w (len + n') cap et - (len + n'), _, by rw [hr]; congr 2; omega, fun k => ?_⟩
      refine new_ok ok (ob := .cells ((SV.dens olds).toArray ++ (SV.dens news).toArray ++ Builtin.zeroCells z.cells (grownCap w (len + n') cap et - (len + n'))) et) rfl rfl rfl rfl ?_
      refine ⟨et, (Builtin.zeroCells z.cells (grownCap w (len + n') cap et - (len + n'))).toList, by rw [zeroCells_toList, hzs], ?_⟩
      show (w.heap.push _)[w.heap.size]? = _
      simp [dens_app]
    unfold appTo at h
    split at h <;> try (cases h; done)
    · split at h <;> try (cases h; done)
      rename_i hfit
      injection h with h1 h2 h3 h4 h5; subst h1; subst h2; subst h3; subst h4; subst h5
      obtain ⟨h1, A', cap', h2, h3, h4⟩ := elemsOf_spec ok.heap hy hs
      obtain ⟨f1, f2, f3, f4⟩ := fits_more hfit
      cases A' with
      | none => exact absurd (h3 rfl).1 hn
      | some ad =>
        have hr := run_append_nil (P := P) w t ty et i z hu hi hz ad n' cap' (SV.dens news) (by rw [dens_length, h1]) (h4 ad rfl) (by omega) f2 (by rw [hby]; omega)
        have hg := grown_ge w n' 0 et
        refine ⟨w.heap.size, grownCap w n' 0 et - n', _, by rw [h2]; simp only [SV.den]; rw [hr]; congr 2; omega, fun k => ?_⟩
        refine new_ok ok (ob := .cells ((SV.dens news).toArray ++ Builtin.zeroCells z.cells (grownCap w n' 0 et - n')) et) rfl rfl rfl rfl ?_
        refine ⟨et, (Builtin.zeroCells z.cells (grownCap w n' 0 et - n')).toList, by rw [zeroCells_toList, hzs], ?_⟩
        show (w.heap.push _)[w.heap.size]? = _
        simp
    · rename_i bk c off len ex
      split at h <;> try (cases h; done)
      rename_i bk' cs r hgk
      split at h <;> try (cases h; done)
      rename_i hfit
      split at h
      · rename_i m
        split at h
        · split at h <;> try (cases h; done)
          split at h <;> try (cases h; done)
          split at h <;> try (cases h; done)
        · rename_i hle
          have hle : ¬ n' ≤ m := fun e => by rw [show Nat.ble n' m = true from by rw [Nat.ble_eq]; exact e] at hle; cases hle
          split at h <;> try (cases h; done)
          rename_i olds ho
          split at h <;> try (cases h; done)
          rename_i l' hap
          injection h with h1 h2 h3 h4 h5; subst h1; subst h2; subst h3; subst h4; subst h5
          rw [appL_eq] at hap
          injection hap with hap; subst hap
          obtain ⟨hb, hs⟩ := hs
          have hb : bk = bk' := hb
          subst hb
          obtain ⟨h1, A', cap', h2, h3, h4⟩ := elemsOf_spec ok.heap hy hs
          obtain ⟨e1, e2⟩ := takeN_spec ho
          cases A' with
          | none => exact absurd (h3 rfl).1 hn
          | some ad =>
            obtain ⟨X, w', g1, g2⟩ := grow (olds := olds) (len := len) (cap := len + m) (ad := ⟨bk, off, none⟩) (A' := ad) (cap' := cap') e2 (fun j v hv => by
              rw [add_plain]
              simp only [dens_map, List.getElem?_map, Option.map_eq_some_iff] at hv
              obtain ⟨y, hy, rfl⟩ := hv
              rw [e1, dropN_eq] at hy
              simp only [List.getElem?_take, List.getElem?_drop] at hy
              split at hy
              · exact chOk_get (ok.heap _ _ _ (getK_mem hgk)) hy
              · cases hy) (by omega) hfit h1 (h4 ad rfl)
            exact ⟨w.heap.size, X, w', by rw [h2]; exact g1, g2⟩
      · rename_i x
        split at h <;> try (cases h; done)
        rename_i h0
        have h0 := Nat.eq_of_beq_eq_true h0
        subst h0
        split at h <;> try (cases h; done)
        rename_i hlc
        have hlc := Nat.eq_of_beq_eq_true hlc
        split at h <;> try (cases h; done)
        rename_i l' hap
        injection h with h1 h2 h3 h4 h5; subst h1; subst h2; subst h3; subst h4; subst h5
        rw [appL_eq] at hap
        injection hap with hap; subst hap
        obtain ⟨hb, hrx, hs⟩ := hs
        have hb : bk = bk' := hb
        have hrx : r = x * i.size := hrx
        subst hb; subst hrx
        obtain ⟨h1, A', cap', h2, h3, h4⟩ := elemsOf_spec ok.heap hy hs
        cases A' with
        | none => exact absurd (h3 rfl).1 hn
        | some ad =>
          obtain ⟨E, rest, hr, hE⟩ := ok.heap _ _ _ (getK_mem hgk)
          by_cases hx : n' ≤ x
          · -- room is left
            have hxs : n' * i.size ≤ x * i.size := Nat.mul_le_mul_right _ hx
            have hsub : (x - n') * i.size = x * i.size - n' * i.size := Nat.sub_mul _ _ _
            have hf := firstCells_spec (P := P) ok.heap hy hs (Nat.le_refl _)
            rw [take_len h1, h2] at hf
            have hst := run_storeCells_at P bk (len * i.size) E (SV.dens news) 0 (SV.dens cs ++ rest).toArray w hE (by simp [dens_length, ← hlc, hr, h1]; omega) (allOne_spec hone)
            have hsizeet : (sizeOf et).run P w = .ok i.size w := by rw [run_sizeOf w hi, cellsOf_info hi]
            have hroom : len + n' ≤ len + x := by omega
            have hr2 : (Builtin.append_ #[t, t] ty #[.slice (some ⟨bk, 0, none⟩) len (len + x), .slice (some ad) n' cap']).run P w = .ok (.slice (some ⟨bk, 0, none⟩) (len + n') (len + x))
                (w.setRow bk ((SV.dens cs ++ rest).toArray.toList.take (len * i.size) ++ SV.dens news ++ (SV.dens cs ++ rest).toArray.toList.drop (len * i.size + (SV.dens news).length)).toArray) := by
              simp only [Nat.add_zero] at hst
              simp [Builtin.append_, run_underlying hu, hsizeet, Builtin.lenOf, hx, hf, add_plain, hst]
            have hcells : ((SV.dens cs ++ rest).toArray.toList.take (len * i.size) ++ SV.dens news ++ (SV.dens cs ++ rest).toArray.toList.drop (len * i.size + (SV.dens news).length)) = SV.dens (cs ++ news) ++ rest.drop (n' * i.size) := by
              have hcl : (SV.dens cs).length = len * i.size := by rw [dens_length, hlc]
              simp only [List.toList_toArray, dens_app]
              rw [← hcl, List.take_left, dens_length news, h1, List.drop_append]
              simp
            rw [hcells] at hr2
            refine ⟨bk, x - n', _, by rw [h2]; simp only [SV.den, Ex.val]; rw [hr2]; congr 2; omega, fun k => ?_⟩
            have okd := drop_ok ok c
            have hnb := dropK_not ok.nodup hgk
            refine ⟨ok.defers, ok.env, ?_, ?_, ?_, ?_, ok.vs⟩
            · intro k' b lc hm
              simp only [List.mem_cons] at hm
              rcases hm with hm | hm
              · injection hm with e1 e2; injection e2 with e2 e3; subst e2; subst e3
                exact ⟨E, rest.drop (n' * i.size), by simp [hr]; omega, setRow_heap w _ _ _ _ _ hE⟩
              · have hE' := okd.heap _ _ _ hm
                have hne : b ≠ bk := fun e => hnb (by rw [← e]; exact List.mem_map.2 ⟨_, hm, rfl⟩)
                have e : (w.setRow bk (SV.dens (cs ++ news) ++ rest.drop (n' * i.size)).toArray).heap[b]? = w.heap[b]? := setRow_other _ _ _ _ hne
                cases lc with
                | cells l r' => obtain ⟨E', q, h3, h4⟩ := hE'; exact ⟨E', q, h3, by rw [e]; exact h4⟩
                | map l => obtain ⟨es, ck, h3, h4⟩ := hE'; exact ⟨es, ck, by rw [e]; exact h3, h4⟩
            · simp only [blocks, List.map_cons, List.nodup_cons]
              exact ⟨hnb, okd.nodup⟩
            · intro b hb
              simp only [blocks, List.map_cons, List.mem_cons] at hb
              rcases hb with rfl | hb
              · exact ok.own _ (List.mem_map.2 ⟨_, getK_mem hgk, rfl⟩)
              · exact okd.own b hb
            · refine ⟨by simp [ok.ext.os], by simp [ok.ext.tape], by simp [ok.ext.output], by simpa using ok.ext.size, fun b hb hnf => ?_⟩
              rw [setRow_other _ _ _ _ (fun e => by
                rcases ok.own bk (List.mem_map.2 ⟨_, getK_mem hgk, rfl⟩) with h | h
                · exact hnf (by rw [e]; exact h)
                · rw [e] at hb; omega)]
              exact ok.ext.block b hb hnf
          · obtain ⟨X, w', g1, g2⟩ := grow (olds := cs) (len := len) (cap := len + x) (ad := ⟨bk, 0, none⟩) (A' := ad) (cap' := cap') hlc.symm (fun j v hv => by
              rw [add_plain, Nat.zero_add]
              simp only [dens_map, List.getElem?_map, Option.map_eq_some_iff] at hv
              obtain ⟨y, hy, rfl⟩ := hv
              exact chOk_get (ok.heap _ _ _ (getK_mem hgk)) hy) (by omega) hfit h1 (h4 ad rfl)
            refine ⟨w.heap.size, X, w', by rw [h2]; exact g1, fun k => ?_⟩
            have g3 := g2 k
            -- the elder row is let go
            have hs2 := dropK_sub hp c
            have hb2 : (blocks ((k, w.heap.size, Ch.cells (cs ++ news) (X * i.size)) :: dropK hp c)).Sublist (blocks ((k, w.heap.size, Ch.cells (cs ++ news) (X * i.size)) :: hp)) := (hs2.cons_cons _).map _
            exact ⟨g3.defers, g3.env, fun k b l hm => g3.heap k b l ((hs2.cons_cons _).subset hm), g3.nodup.sublist hb2, fun b hm => g3.own b (hb2.subset hm), g3.ext, g3.vs⟩
end
end Go.Vd
