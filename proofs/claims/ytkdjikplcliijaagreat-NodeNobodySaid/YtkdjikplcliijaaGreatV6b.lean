/-  The evaluator is sound, part 6b: blocks that have come up ahead of their time. -/
import Derived.Test.YtkdjikplcliijaaGreatV6
namespace Go.Vd
section
variable {P : Program} {base : World} {F : List Nat} {env : Env} {hp : Hp} {vs : List MV} {a : Act} {w : World}

theorem Ext.cell' {w0 w1 : World} {bs : List Nat} (h : Ext w0 bs w1) {a : Addr} {v : Value} (hc : w0.cell? a = some v) (hn : a.block ∉ bs) : w1.cell? a = some v := by
  have hb := World.block_lt_of_cell? _ _ hc
  unfold World.cell? at hc ⊢
  rw [h.block _ hb hn]; exact hc
theorem add_block (a : Addr) (j : Nat) : (a.add j).block = a.block := by unfold Addr.add; split <;> rfl

/-- what is known beside (b, F') is known beside (base, F) -/
structure InclS (base : World) (F : List Nat) (vs : List MV) (b : World) (F' : List Nat) : Prop where
  size : base.heap.size ≤ b.heap.size
  ext : Ext base F b
  own : ∀ x ∈ F', x ∈ F ∨ base.heap.size ≤ x
  vs : okVs base vs F
theorem InclS.refl (h : okVs base vs F) : InclS base F vs base F := ⟨Nat.le_refl _, ⟨rfl, rfl, rfl, Nat.le_refl _, fun _ _ _ => rfl⟩, fun x hx => .inl hx, h⟩
theorem InclS.ok {b : World} {F' : List Nat} (h : InclS base F vs b F') (ok : OK b F' env hp vs a w) : OK base F env hp vs a w := by
  refine ⟨ok.defers, ok.env, ok.heap, ok.nodup, fun x hx => ?_, ⟨ok.ext.os.trans h.ext.os, ok.ext.tape.trans h.ext.tape, ok.ext.output.trans h.ext.output, Nat.le_trans h.size ok.ext.size, fun x hx hn => ?_⟩, h.vs⟩
  · rcases ok.own x hx with h1 | h1
    · exact h.own x h1
    · exact .inr (Nat.le_trans h.size h1)
  · rw [ok.ext.block x (Nat.lt_of_lt_of_le hx h.size) (fun hm => by
      rcases h.own x hm with h1 | h1
      · exact hn h1
      · omega)]
    exact h.ext.block x hx hn

/-- a block that nothing known may write -/
structure Prot (base b : World) (F' : List Nat) (B : Nat) (ob : Obj) : Prop where
  lt : B < b.heap.size
  out : B ∉ F'
  late : base.heap.size ≤ B
  at_ : b.heap[B]? = some ob
theorem Prot.now {b : World} {F' : List Nat} {B : Nat} {ob : Obj} (h : Prot base b F' B ob) (ok : OK b F' env hp vs a w) : w.heap[B]? = some ob ∧ B ∉ blocks hp :=
  ⟨by rw [ok.ext.block B h.lt h.out]; exact h.at_, fun hm => by
    rcases ok.own B hm with h1 | h1
    · exact h.out h1
    · have := h.lt; omega⟩

/-- a block is laid ahead of its time: from now on nothing may write it -/
theorem rebase {b : World} {F' : List Nat} (hi : InclS base F vs b F') (ok : OK b F' env hp vs a w) (ob : Obj) :
    InclS base F vs { w with heap := w.heap.push ob } (blocks hp) ∧ OK { w with heap := w.heap.push ob } (blocks hp) env hp vs a { w with heap := w.heap.push ob } ∧
    (∀ B ob', Prot base b F' B ob' → Prot base { w with heap := w.heap.push ob } (blocks hp) B ob') ∧ Prot base { w with heap := w.heap.push ob } (blocks hp) w.heap.size ob := by
  have ok0 := hi.ok ok
  have hx := Ext.push w ob
  have okp := ok_ro ok0 hx
  have hlt : ∀ x, x ∈ blocks hp → x < w.heap.size := fun x h => okHp_lt ok.heap h
  refine ⟨⟨by have := ok0.ext.size; simp; omega, okp.ext, fun x hm => ok0.own x hm, hi.vs⟩, ⟨ok.defers, ok.env, okp.heap, ok.nodup, fun x hm => .inl hm, ⟨rfl, rfl, rfl, Nat.le_refl _, fun _ _ _ => rfl⟩, ?_⟩, ?_, ⟨by simp, fun hm => by have := hlt _ hm; omega, ok0.ext.size, by simp⟩⟩
  · intro V hV ix hd v j hj
    obtain ⟨h1, h2⟩ := hi.vs V hV ix hd v j hj
    refine ⟨okp.ext.cell' h1 (by rw [add_block]; exact h2), fun hm => ?_⟩
    rcases ok0.own _ hm with h3 | h3
    · exact h2 h3
    · have := World.block_lt_of_cell? _ _ h1
      rw [add_block] at this; omega
  · intro B ob' hp'
    obtain ⟨h1, h2⟩ := hp'.now ok
    have hBw : B < w.heap.size := (Array.getElem?_eq_some_iff.1 h1).1
    exact ⟨by simp; omega, h2, hp'.late, by simp [Array.getElem?_push, Nat.ne_of_lt hBw]; exact h1⟩

/-- its time has come -/
theorem unprot {b : World} {F' : List Nat} (hi : InclS base F vs b F') (ok : OK b F' env hp vs a w) {B : Nat} {cs : List SV} {E : TypeId} (hP : Prot base b F' B (.cells (SV.dens cs).toArray E (0, 0))) (nk : Nat) :
    InclS base F vs b (B :: F') ∧ OK b (B :: F') env ((nk, B, .cells cs 0) :: hp) vs a w ∧ ∀ B' ob', B' < B → Prot base b F' B' ob' → Prot base b (B :: F') B' ob' := by
  obtain ⟨h1, h2⟩ := hP.now ok
  refine ⟨⟨hi.size, hi.ext, fun x hx => ?_, hi.vs⟩, ⟨ok.defers, ok.env, ?_, ?_, ?_, ⟨ok.ext.os, ok.ext.tape, ok.ext.output, ok.ext.size, fun x hx hn => ok.ext.block x hx (fun hm => hn (List.mem_cons_of_mem _ hm))⟩, ?_⟩, ?_⟩
  · simp only [List.mem_cons] at hx
    rcases hx with rfl | hx
    · exact .inr hP.late
    · exact hi.own x hx
  · intro k bk ch hm
    simp only [List.mem_cons] at hm
    rcases hm with hm | hm
    · injection hm with e1 e2; injection e2 with e2 e3; subst e2; subst e3
      exact ⟨E, [], rfl, by simpa using h1⟩
    · exact ok.heap k bk ch hm
  · simp only [blocks, List.map_cons, List.nodup_cons]
    exact ⟨h2, ok.nodup⟩
  · intro x hx
    simp only [blocks, List.map_cons, List.mem_cons] at hx
    rcases hx with rfl | hx
    · exact .inl (by simp)
    · rcases ok.own x hx with h3 | h3
      · exact .inl (List.mem_cons_of_mem _ h3)
      · exact .inr h3
  · intro V hV ix hd v j hj
    obtain ⟨g1, g2⟩ := ok.vs V hV ix hd v j hj
    refine ⟨g1, fun hm => ?_⟩
    simp only [List.mem_cons] at hm
    rcases hm with hm | hm
    · obtain ⟨g3, _⟩ := hi.vs V hV ix hd v j hj
      have := World.block_lt_of_cell? _ _ g3
      rw [add_block] at this
      have := hP.late; omega
    · exact g2 hm
  · intro B' ob' hlt hp'
    exact ⟨hp'.lt, by simp only [List.mem_cons, not_or]; exact ⟨by omega, hp'.out⟩, hp'.late, hp'.at_⟩

/-- what is left to do as it is gone through, and as it truly is: some operations have come up ahead of their time -/
inductive KRel (Pr : Nat → Obj → Prop) : Nat → Nat → List K → List K → Prop
  | nil {L M : Nat} : M ≤ L → KRel Pr L M [] []
  | cons {L M : Nat} {ks ks' : List K} (k : K) : KRel Pr L M ks ks' → KRel Pr L M (k :: ks) (k :: ks')
  | gap {L M B f : Nat} {ob : Obj} {ops : Array Oper} {plan dn : List Nat} {ks ks' : List K} : B < L → Pr B ob → KRel Pr B M ks ks' → KRel Pr L M (.gap ops (some f) plan dn :: ks) (.gapS ops f B ob plan dn :: ks')
theorem KRel.le {Pr : Nat → Obj → Prop} {L M : Nat} {ks ks' : List K} (h : KRel Pr L M ks ks') : M ≤ L := by
  induction h with
  | nil h => exact h
  | cons _ _ ih => exact ih
  | gap h _ _ ih => omega
theorem KRel.mono {Pr Pr' : Nat → Obj → Prop} {L M : Nat} {ks ks' : List K} (h : KRel Pr L M ks ks') : ∀ {L' : Nat}, L ≤ L' → (∀ B ob, B < L → Pr B ob → Pr' B ob) → KRel Pr' L' M ks ks' := by
  induction h with
  | nil h => exact fun hl _ => .nil (Nat.le_trans h hl)
  | cons k _ ih => exact fun hl hp => .cons k (ih hl hp)
  | gap hB hP _ ih => exact fun hl hp => .gap (Nat.lt_of_lt_of_le hB hl) (hp _ _ hB hP) (ih (Nat.le_refl _) (fun B ob h1 h2 => hp B ob (by omega) h2))
theorem KRel.low {Pr : Nat → Obj → Prop} {S : Nat} (hS : ∀ B ob, Pr B ob → B < S) {L M : Nat} {ks ks' : List K} (h : KRel Pr L M ks ks') : KRel Pr (min L S) (min M S) ks ks' := by
  induction h with
  | nil h => exact .nil (by omega)
  | cons k _ ih => exact .cons k ih
  | gap hB hP _ ih =>
    have := hS _ _ hP
    refine .gap (by omega) hP ?_
    rw [show min _ S = _ from Nat.min_eq_left (Nat.le_of_lt this)] at ih
    exact ih
theorem KRel.down {Pr : Nat → Obj → Prop} {L M : Nat} {ks ks' : List K} (h : KRel Pr L M ks ks') : ∀ {M' : Nat}, M' ≤ M → KRel Pr L M' ks ks' := by
  induction h with
  | nil h => exact fun hl => .nil (by omega)
  | cons k _ ih => exact fun hl => .cons k (ih hl)
  | gap hB hP _ ih => exact fun hl => .gap hB hP (ih hl)
theorem KRel.refl (Pr : Nat → Obj → Prop) {L M : Nat} (h : M ≤ L) : ∀ (ks : List K), KRel Pr L M ks ks
  | [] => .nil h
  | k :: ks => .cons k (KRel.refl Pr h ks)
theorem KRel.noFl {Pr : Nat → Obj → Prop} {L M : Nat} {ks ks' : List K} (h : KRel Pr L M ks ks') : Go.Vd.noFl ks = true → ks = ks' := by
  induction h with
  | nil h => exact fun _ => rfl
  | cons k _ ih =>
    intro h
    rw [ih (by
      cases k <;> simp only [Go.Vd.noFl] at h <;> first | exact h | (cases h; done) | (split at h <;> first | exact h | cases h))]
  | gap hB hP _ ih => exact fun h => by simp [Go.Vd.noFl] at h
theorem KRel.popTo {Pr : Nat → Obj → Prop} {L M : Nat} {ks ks' : List K} (h : KRel Pr L M ks ks') : ∀ {id : Nat} {r : List K}, Go.Vd.popTo id ks = some r → ∃ r', Go.Vd.popTo id ks' = some r' ∧ KRel Pr L M r r' := by
  induction h with
  | nil h => intro id r hp; simp [Go.Vd.popTo] at hp
  | cons k hr ih =>
    intro id r hp
    cases k <;> simp only [Go.Vd.popTo] at hp ⊢ <;> try exact ih hp
    split at hp
    · injection hp with hp; subst hp; exact ⟨_, rfl, hr⟩
    · exact ih hp
  | gap hB hP hr ih =>
    intro id r hp
    simp only [Go.Vd.popTo] at hp ⊢
    obtain ⟨r', h1, h2⟩ := ih hp
    exact ⟨r', h1, h2.mono (Nat.le_of_lt hB) (fun _ _ _ h => h)⟩
end
end Go.Vd
