/-  The evaluator is sound, part 2c: memory. -/
import Derived.Test.YtkdjikplcliijaaGreatV2b
import Derived.Laws.CopyRow
namespace Go.Vd
section
variable {P : Program} {T : BT} {base : World} {F : List Nat} {env : Env} {hp : Hp} {vs : List MV} {a : Act} {w : World}

theorem cells_den {u : SV} {vs : List SV} (h : u.cells = some vs) : u.den.cells = (SV.dens vs).toArray := by
  unfold SV.cells at h
  split at h <;> try (cases h; done)
  · injection h with h; subst h; simp [SV.den, Value.cells]
  · rename_i h1 h2 h3 h4 h5
    injection h with h; subst h
    cases u <;> first | (simp [SV.den, SV.dens, Value.cells]; done) | exact (h2 _ rfl).elim | exact (h1 _ rfl).elim | exact (h3 _ rfl).elim | exact (h4 _ _ _ _ rfl).elim | exact (h5 rfl).elim

theorem putN_den {off : Nat} {v l r : List SV} (h : putN off v l = some r) : off + v.length ≤ l.length ∧ SV.dens r = (SV.dens l).take off ++ SV.dens v ++ (SV.dens l).drop (off + v.length) := by
  obtain ⟨h1, h2⟩ := putN_spec h
  refine ⟨h1, ?_⟩
  subst h2
  simp [dens_map]

theorem one_cell {x : SV} (h : x.one = true) : x.den.oneCell' = true := by
  cases x <;> simp_all [SV.one, SV.den, Value.oneCell']
theorem allOne_spec : ∀ {l : List SV}, allOne l = true → ∀ v ∈ SV.dens l, v.oneCell' = true
  | [], _, v, hv => by simp [SV.dens] at hv
  | x :: l, h, v, hv => by
    simp only [allOne] at h
    split at h
    · rename_i hx
      simp only [SV.dens, List.mem_cons] at hv
      rcases hv with rfl | hv
      · exact one_cell hx
      · exact allOne_spec h v hv
    · cases h

theorem zerosN_den : ∀ {z r : List SV} {n : Nat}, zerosN z n = some r → SV.dens r = (List.replicate n (SV.dens z)).flatten
  | z, r, 0, h => by simp [zerosN] at h; subst h; rfl
  | z, r, n + 1, h => by
    simp only [zerosN] at h
    split at h
    · rename_i q hq
      rw [appL_eq] at h
      injection h with h; subst h
      rw [dens_app, zerosN_den hq, List.replicate_succ, List.flatten_cons]
    · cases h

theorem flat_at (z : List Value) (h0 : 0 < z.length) : ∀ (n j : Nat), j < n * z.length → ((List.replicate n z).flatten)[j]? = z[j % z.length]?
  | 0, j, h => by simp at h
  | n + 1, j, h => by
    rw [List.replicate_succ, List.flatten_cons]
    rcases Nat.lt_or_ge j z.length with hj | hj
    · rw [List.getElem?_append_left hj, Nat.mod_eq_of_lt hj]
    · rw [List.getElem?_append_right hj, flat_at z h0 n (j - z.length) (by rw [Nat.succ_mul] at h; omega)]
      rw [← Nat.mod_eq_sub_mod hj]

theorem zeros_array (z : List Value) (len : Nat) : ((Array.range (len * z.length)).map (fun j => z.toArray[j % z.toArray.size]!)) = ((List.replicate len z).flatten).toArray := by
  apply Array.toList_inj.1
  apply List.ext_getElem?
  intro j
  rcases Nat.eq_zero_or_pos z.length with h0 | h0
  · have : z = [] := List.eq_nil_of_length_eq_zero h0
    subst this; simp
  · rcases Nat.lt_or_ge j (len * z.length) with hj | hj
    · have hm : j % z.length < z.length := Nat.mod_lt _ h0
      simp only [List.toList_toArray]
      rw [flat_at z h0 len j hj]
      simp [hj, hm]
    · rw [List.getElem?_eq_none (by simp; exact hj), List.getElem?_eq_none (by simp [List.length_flatten]; exact hj)]


theorem setK_spec : ∀ {hp hp' : Hp} {c bk : Nat} {cs cs' : Ch}, getK hp c = some (bk, cs) → setK hp c cs' = some hp' →
    blocks hp' = blocks hp ∧ ∀ k b l, (k, b, l) ∈ hp' → ((b = bk ∧ l = cs') ∨ ((k, b, l) ∈ hp ∧ b ≠ bk)) ∨ ¬ (blocks hp).Nodup
  | [], _, _, _, _, _, h, _ => by cases h
  | (k, b, l) :: hp, hp', c, bk, cs, cs', hg, hs => by
    simp only [getK_cons] at hg
    simp only [setK_cons] at hs
    split at hg
    · rename_i hk
      rw [hk] at hs
      simp only [] at hs
      injection hg with hg; injection hg with h1 h2; subst h1; subst h2
      injection hs with hs; subst hs
      refine ⟨rfl, fun k' b' l' hm => ?_⟩
      simp only [List.mem_cons] at hm
      rcases hm with hm | hm
      · injection hm with h1 h2; injection h2 with h2 h3; subst h2; subst h3; exact .inl (.inl ⟨rfl, rfl⟩)
      · by_cases hb : b' = b
        · subst hb
          refine .inr ?_
          simp only [blocks, List.map_cons, List.nodup_cons, not_and]
          intro hn
          exact absurd (List.mem_map.2 ⟨_, hm, rfl⟩) hn
        · exact .inl (.inr ⟨by simp [hm], hb⟩)
    · rename_i hk
      rw [hk] at hs
      simp only [] at hs
      split at hs
      · rename_i r hr
        injection hs with hs; subst hs
        obtain ⟨i1, i2⟩ := setK_spec hg hr
        refine ⟨by simp only [blocks, List.map_cons] at i1 ⊢; rw [i1], fun k' b' l' hm => ?_⟩
        simp only [List.mem_cons] at hm
        rcases hm with hm | hm
        · injection hm with h1 h2; injection h2 with h2 h3; subst h1; subst h2; subst h3
          by_cases hb : b' = bk
          · subst hb
            refine .inr ?_
            simp only [blocks, List.map_cons, List.nodup_cons, not_and]
            intro hn
            exact absurd (List.mem_map.2 ⟨_, getK_mem hg, rfl⟩) hn
          · exact .inl (.inr ⟨by simp, hb⟩)
        · rcases i2 _ _ _ hm with (h | ⟨h1, h2⟩) | h
          · exact .inl (.inl h)
          · exact .inl (.inr ⟨by simp [h1], h2⟩)
          · exact .inr (fun hn => h (by simp only [blocks, List.map_cons, List.nodup_cons] at hn ⊢; exact hn.2))
      · cases hs

/-- a write into a known block -/
theorem store_ok (ok : OK base F env hp vs a w) {hp' : Hp} {c bk r : Nat} {cs cs' : List SV} {E : TypeId} {rest : List Value} (hk : getK hp c = some (bk, .cells cs r)) (hr : rest.length = r)
    (hE : w.heap[bk]? = some (.cells (SV.dens cs ++ rest).toArray E (0, 0))) (hs : setK hp c (.cells cs' r) = some hp') : OK base F env hp' vs a (w.setRow bk (SV.dens cs' ++ rest).toArray) := by
  obtain ⟨s1, s2⟩ := setK_spec hk hs
  have hb' : bk ∈ blocks hp := List.mem_map.2 ⟨_, getK_mem hk, rfl⟩
  refine ⟨ok.defers, ok.env, ?_, by rw [s1]; exact ok.nodup, by rw [s1]; exact ok.own, ?_, ok.vs⟩
  · intro k b l hm
    rcases s2 _ _ _ hm with (⟨rfl, rfl⟩ | ⟨h1, h2⟩) | h
    · exact ⟨E, rest, hr, setRow_heap w _ _ _ _ _ hE⟩
    · have hE' := ok.heap _ _ _ h1
      have e : (w.setRow bk (SV.dens cs' ++ rest).toArray).heap[b]? = w.heap[b]? := setRow_other _ _ _ _ h2
      cases l with
      | cells l r' => obtain ⟨E', q, h3, h4⟩ := hE'; exact ⟨E', q, h3, by rw [e]; exact h4⟩
      | map l => obtain ⟨es, ck, h3, h4⟩ := hE'; exact ⟨es, ck, by rw [e]; exact h3, h4⟩
    · exact absurd ok.nodup h
  · refine ⟨by simp [ok.ext.os], by simp [ok.ext.tape], by simp [ok.ext.output], by simpa using ok.ext.size, fun b hb hn => ?_⟩
    rw [setRow_other _ _ _ _ (fun e => by
      rcases ok.own bk hb' with h | h
      · exact hn (by rw [e]; exact h)
      · rw [e] at hb; omega)]
    exact ok.ext.block b hb hn

theorem okHp_lt (h : okHp hp w) {b : Nat} (hb : b ∈ blocks hp) : b < w.heap.size := by
  obtain ⟨⟨k, b', l⟩, hm, rfl⟩ := List.mem_map.1 hb
  have hE := h _ _ _ hm
  cases l with
  | cells l r => obtain ⟨E, q, _, h4⟩ := hE; exact (Array.getElem?_eq_some_iff.1 h4).1
  | map l => obtain ⟨es, ck, h3, _⟩ := hE; exact (Array.getElem?_eq_some_iff.1 h3).1

/-- a new object -/
theorem new_ok (ok : OK base F env hp vs a w) {k : Nat} {ch : Ch} {ob : Obj} {w' : World} (hw : w'.heap = w.heap.push ob) (ho : w'.os = w.os) (ht : w'.tape = w.tape) (hu : w'.output = w.output)
    (hc : chOk w' w.heap.size ch) : OK base F env ((k, w.heap.size, ch) :: hp) vs a w' := by
  have hn : w.heap.size ∉ blocks hp := fun h => absurd (okHp_lt ok.heap h) (by omega)
  refine ⟨ok.defers, ok.env, ?_, ?_, ?_, ?_, ok.vs⟩
  · intro k' b l hm
    simp only [List.mem_cons] at hm
    rcases hm with hm | hm
    · injection hm with h1 h2; injection h2 with h2 h3; subst h2; subst h3
      exact hc
    · have hE' := ok.heap _ _ _ hm
      have hlt : b < w.heap.size := okHp_lt ok.heap (List.mem_map.2 ⟨_, hm, rfl⟩)
      have e : w'.heap[b]? = w.heap[b]? := by rw [hw, Array.getElem?_push, if_neg (by omega)]
      cases l with
      | cells l r' => obtain ⟨E', q, h3, h4⟩ := hE'; exact ⟨E', q, h3, by rw [e]; exact h4⟩
      | map l => obtain ⟨es, ck, h3, h4⟩ := hE'; exact ⟨es, ck, by rw [e]; exact h3, h4⟩
  · simp only [blocks, List.map_cons, List.nodup_cons]
    exact ⟨hn, ok.nodup⟩
  · intro b hb
    simp only [blocks, List.map_cons, List.mem_cons] at hb
    rcases hb with rfl | hb
    · exact .inr ok.ext.size
    · exact ok.own b hb
  · refine ⟨by rw [ho]; exact ok.ext.os, by rw [ht]; exact ok.ext.tape, by rw [hu]; exact ok.ext.output, by rw [hw]; simp; have := ok.ext.size; omega, fun b hb hnb => ?_⟩
    have := ok.ext.size
    rw [hw, Array.getElem?_push, if_neg (by omega)]
    exact ok.ext.block b hb hnb
theorem newChunk_ok (ok : OK base F env hp vs a w) {k : Nat} {cs : List SV} {E : TypeId} : OK base F env ((k, w.heap.size, .cells cs 0) :: hp) vs a { w with heap := w.heap.push (.cells (SV.dens cs).toArray E (0, 0)) } :=
  new_ok ok rfl rfl rfl rfl ⟨E, [], rfl, by simp⟩

theorem dropK_sub : ∀ (hp : Hp) (c : Nat), (dropK hp c).Sublist hp
  | [], c => List.Sublist.refl _
  | (k, bk, cs) :: l, c => by
    simp only [dropK]
    split
    · exact List.sublist_cons_self _ _
    · exact (dropK_sub l c).cons_cons _
theorem drop_ok (ok : OK base F env hp vs a w) (c : Nat) : OK base F env (dropK hp c) vs a w := by
  have hs := dropK_sub hp c
  have hb : (blocks (dropK hp c)).Sublist (blocks hp) := hs.map _
  exact ⟨ok.defers, ok.env, fun k b l hm => ok.heap k b l (hs.subset hm), ok.nodup.sublist hb, fun b hm => ok.own b (hb.subset hm), ok.ext, ok.vs⟩
theorem dropK_not (hn : (blocks hp).Nodup) {c bk : Nat} {ch : Ch} (hk : getK hp c = some (bk, ch)) : bk ∉ blocks (dropK hp c) := by
  induction hp with
  | nil => cases hk
  | cons p l ih =>
    obtain ⟨k, b, l'⟩ := p
    simp only [getK_cons] at hk
    simp only [dropK]
    simp only [blocks, List.map_cons, List.nodup_cons] at hn
    split at hk
    · rename_i hb
      injection hk with hk; injection hk with h1 h2; subst h1
      exact hn.1
    · rename_i hb
      simp only [blocks, List.map_cons, List.mem_cons, not_or]
      refine ⟨fun e => hn.1 ?_, ih hn.2 hk⟩
      rw [← e]; exact List.mem_map.2 ⟨_, getK_mem hk, rfl⟩
end
end Go.Vd
