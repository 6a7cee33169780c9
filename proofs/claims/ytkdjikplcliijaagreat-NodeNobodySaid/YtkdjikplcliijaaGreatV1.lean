/-  The evaluator is sound, part 1: operations. -/
import Derived.Test.YtkdjikplcliijaaGreatV0
import Derived.WalkKit
namespace Go.Vd

def All : List Sd → Prop
  | [] => True
  | p :: l => p.holds ∧ All l

theorem All.app {l m r : List Sd} (h : appL l m = some r) (hr : All r) : All l ∧ All m := by
  induction l generalizing r with
  | nil => simp [appL] at h; subst h; exact ⟨trivial, hr⟩
  | cons x l ih =>
    simp only [appL] at h
    split at h
    · rename_i q hq
      injection h with h; subst h
      obtain ⟨h1, h2⟩ := ih hq hr.2
      exact ⟨⟨hr.1, h1⟩, h2⟩
    · cases h

theorem pushS_all : ∀ {x : Sd} {l : List Sd}, All (pushS x l) → x.holds ∧ All l
  | x, [], h => ⟨h.1, trivial⟩
  | x, y :: l, h => by
    simp only [pushS] at h
    split at h
    · obtain ⟨⟨h1, h2⟩, h3⟩ := pushS_all h
      exact ⟨h1, h2, h3⟩
    · exact ⟨h.1, h.2⟩
theorem joinT_some : ∀ (s1 sd : List Sd), ∃ r, joinT s1 sd = some r ∧ (All r → All s1 ∧ All sd)
  | [], l => ⟨l, rfl, fun h => ⟨trivial, h⟩⟩
  | x :: m, l => by
    simp only [joinT]
    cases hp : pushS x l with
    | nil =>
      exfalso
      have key : ∀ (l : List Sd) (x : Sd), pushS x l ≠ [] := by
        intro l
        induction l with
        | nil => intro x h; cases h
        | cons y l ih =>
          intro x h
          simp only [pushS] at h
          split at h
          · exact ih _ h
          · cases h
      exact key _ _ hp
    | cons z r =>
      obtain ⟨q, h1, h2⟩ := joinT_some m (z :: r)
      refine ⟨q, h1, fun h => ?_⟩
      obtain ⟨h3, h4⟩ := h2 h
      rw [← hp] at h4
      obtain ⟨h5, h6⟩ := pushS_all h4
      exact ⟨⟨h5, h3⟩, h6⟩
theorem appL_eq {α : Type} (l m : List α) : appL l m = some (l ++ m) := by
  induction l with
  | nil => rfl
  | cons x l ih => simp [appL, ih]

theorem joinS_some (cm : Bool) (s1 sd : List Sd) : ∃ r, joinS cm s1 sd = some r ∧ (All r → All s1 ∧ All sd) := by
  cases s1 with
  | nil => exact ⟨sd, rfl, fun h => ⟨trivial, h⟩⟩
  | cons x l =>
    cases cm with
    | true => exact joinT_some (x :: l) sd
    | false => exact ⟨(x :: l) ++ sd, appL_eq (x :: l) sd, fun h => All.app (appL_eq (x :: l) sd) h⟩
theorem joinS_all {cm : Bool} {s1 sd r : List Sd} (h : joinS cm s1 sd = some r) (hr : All r) : All s1 ∧ All sd := by
  obtain ⟨q, h1, h2⟩ := joinS_some cm s1 sd
  rw [h] at h1
  injection h1 with h1; subst h1
  exact h2 hr
theorem dens_map (l : List SV) : SV.dens l = l.map SV.den := by
  induction l with
  | nil => rfl
  | cons x l ih => simp [SV.dens, ih]
theorem dens_length (l : List SV) : (SV.dens l).length = l.length := by simp [dens_map]
theorem dens_app (l m : List SV) : SV.dens (l ++ m) = SV.dens l ++ SV.dens m := by simp [dens_map]

/-- blocks other than 'bs' are as they were; nothing else of the world has changed but what has been drawn -/
structure Ext (base : World) (bs : List Nat) (w : World) : Prop where
  os : w.os = base.os
  tape : w.tape = base.tape
  output : w.output = base.output
  size : base.heap.size ≤ w.heap.size
  block : ∀ b, b < base.heap.size → b ∉ bs → w.heap[b]? = base.heap[b]?

def okEnv (env : Env) (a : Act) : Prop := ∀ t v, look env t = some v → t < a.tmps.size ∧ a.tmps.getD t undef = v.den
/-- what is known of a block is so -/
def chOk (w : World) (bk : Nat) : Ch → Prop
  | .cells cs r => ∃ E rest, rest.length = r ∧ w.heap[bk]? = some (.cells (SV.dens cs ++ rest).toArray E (0, 0))
  | .map l => ∃ es clock, w.heap[bk]? = some (.map es clock) ∧ es.toList.map (fun e => (e.key, e.val)) = l.map (fun p => (p.1.den, p.2.den))
def okHp (hp : Hp) (w : World) : Prop := ∀ k bk ch, (k, bk, ch) ∈ hp → chOk w bk ch
def blocks (hp : Hp) : List Nat := hp.map fun c => c.2.1
def okVs (base : World) (vs : List MV) (bs : List Nat) : Prop := ∀ V ∈ vs, ∀ ix, V.dom ix → ∀ v j, nth (V.rd ix) j = some v → base.cell? ((V.ad ix).add j) = some v.den ∧ (V.ad ix).block ∉ bs

/-- What is known: F: the blocks that the base has, and that may be written. -/
structure OK (base : World) (F : List Nat) (env : Env) (hp : Hp) (vs : List MV) (a : Act) (w : World) : Prop where
  defers : a.defers = []
  env : okEnv env a
  heap : okHp hp w
  nodup : (blocks hp).Nodup
  own : ∀ b ∈ blocks hp, b ∈ F ∨ base.heap.size ≤ b
  ext : Ext base F w
  vs : okVs base vs F

/-! ### Types -/
def flatGo (P : Program) (chk : TypeId → Bool) (size : Nat) : List Field → Nat → Bool
  | [], off => off == size
  | f :: fs, off => f.name != "_" && f.offset == off && (P.info? f.type).isSome && chk f.type && flatGo P chk size fs (off + P.cellsOf f.type)
/-- all of ints, one behind the other -/
def flatB (P : Program) : Nat → TypeId → Bool
  | 0, _ => false
  | n + 1, t => match P.underlying t with
    | some (.int _) => P.cellsOf t == 1
    | some (.struct fs) => !P.stoodInHeld t && flatGo P (flatB P n) (P.cellsOf t) fs.toList 0
    | _ => false
def kindOk (P : Program) (d : TypeDesc) : TK → Prop
  | .plain => True
  | .ptr => ∃ e, d = .pointer e
  | .bl => d = .bool
  | .int k => d = .int k
  | .struct offs => ∃ fs, d = .struct fs ∧ fs.toList.mapM (fun f => (P.info? f.type).map fun i => (f.offset, i.size)) = some offs ∧ ∀ p ∈ offs, p.2 ≠ 0
  | .array len es one => ∃ e, d = .array len e ∧ (P.info? e).map (·.size) = some es ∧ ∃ de, P.underlying e = some de ∧ (!one) = (match de with | .struct _ | .array _ _ => true | _ => false)
  | .slice es et => d = .slice et ∧ (P.info? et).map (·.size) = some es
  | .map kt vt => d = .map kt vt
  | .str => d = .string
def methB (P : Program) (t : Nat) (p : String × Nat) : Bool :=
  match P.info? t with
  | some i => match i.methods.find? (·.name == p.1) with
    | some m => m.path.isEmpty && m.func == some (p.2, true)
    | none => false
  | none => false
structure TiOk (P : Program) (t : Nat) (ti : TI) : Prop where
  ex : ∃ d i z, P.underlying t = some d ∧ P.info? t = some i ∧ i.size = ti.size ∧ i.zero = some z ∧ z.cells.toList = SV.dens ti.zero ∧
    ti.agg = (match d with | .struct _ | .array _ _ => true | _ => false) ∧ kindOk P d ti.kind ∧ ti.zero.length = ti.size ∧ i.bytes = ti.bytes
  flat : ti.flat = true → flatB P 6 t = true ∧ (∃ fs, P.underlying t = some (.struct fs)) ∧ P.eqGuardType P.depth t = false
  mt : ti.meths.all (methB P t) = true ∧ (ti.meths ≠ [] → ∃ e, P.underlying t = some (.pointer e))
  zf : ∃ i z, P.info? t = some i ∧ i.zero = some z ∧ (match z with | .agg _ => true | _ => false) = ti.agg

inductive BT.All (p : Nat → TI → Prop) : BT → Prop
  | nil : BT.All p .nil
  | node {l r : BT} {k : Nat} {v : TI} : BT.All p l → p k v → BT.All p r → BT.All p (.node l k v r)
theorem BT.All.find {p : Nat → TI → Prop} {T : BT} (h : T.All p) {t : Nat} {ti : TI} (hf : T.find t = some ti) : p t ti := by
  induction h with
  | nil => cases hf
  | node _ hv _ ihl ihr =>
    simp only [BT.find_node] at hf
    split at hf
    · rename_i h1
      injection hf with hf; subst hf
      rw [Nat.eq_of_beq_eq_true h1]; exact hv
    · split at hf
      · exact ihl hf
      · exact ihr hf

section
variable {P : Program} {T : BT} {base : World} {F : List Nat} {env : Env} {hp : Hp} {vs : List MV} {a : Act} {w : World}

def gOK (env : Env) (gd : Option (Nat × Bool)) (x : Operand) : Prop :=
  ∀ t, x = .tmp t → ∀ j pol q y, look env t = some (.gd j pol q y) → gd = some (j, pol) → q = pol

theorem constSV_den {v : Value} {r : SV} (h : constSV v = some r) : r.den = v := by
  unfold constSV at h
  split at h <;> injection h with h <;> subst h <;> simp [SV.den]

theorem ev_den (ok : OK base F env hp vs a w) {gd : Option (Nat × Bool)} {x : Operand} {v : SV} (hg : gOK env gd x) (h : ev env gd x = some v) : a.eval x = v.den := by
  cases x with
  | const c => simp only [ev] at h; simp [Act.eval, constSV_den h]
  | func f => simp only [ev] at h; injection h with h; subst h; simp [Act.eval, SV.den, SV.dens]
  | global g => simp [ev] at h
  | tmp t =>
    simp only [ev] at h
    split at h
    · simpa [Act.eval] using (ok.env t _ h).2
    rename_i j' pol'
    unfold ungdV at h
    split at h
    · rename_i j pol q y hl
      have he := (ok.env t _ hl).2
      · split at h
        · rename_i hb
          injection h with h; subst h
          simp only [Bool.and_eq_true, beq_iff_eq] at hb
          obtain ⟨h1, h2⟩ := hb
          have h1 := Nat.eq_of_beq_eq_true h1
          subst h1; subst h2
          have hq := hg t rfl _ _ _ _ hl rfl
          subst hq
          simpa [Act.eval, SV.den] using he
        · injection h with h; subst h
          simpa [Act.eval] using he
    · simpa [Act.eval] using (ok.env t _ h).2

theorem evs_den (ok : OK base F env hp vs a w) {gd : Option (Nat × Bool)} : ∀ {l : List Operand} {r : List SV}, (∀ x ∈ l, gOK env gd x) → evs env gd l = some r → l.map a.eval = SV.dens r
  | [], r, _, h => by simp [evs_nil] at h; subst h; rfl
  | x :: l, r, hg, h => by
    simp only [evs_cons] at h
    split at h
    · rename_i v hv
      split at h
      · rename_i vs' hvs
        injection h with h; subst h
        simp [SV.dens, ev_den ok (hg x (by simp)) hv, evs_den ok (fun y hy => hg y (by simp [hy])) hvs]
      · cases h
    · cases h
theorem evParts_den (ok : OK base F env hp vs a w) {gd : Option (Nat × Bool)} : ∀ {l : List (Nat × Operand)} {r : List (Nat × SV)}, (∀ x ∈ l, gOK env gd x.2) → evParts env gd l = some r →
    l.map (fun p => (p.1, a.eval p.2)) = r.map (fun p => (p.1, p.2.den))
  | [], r, _, h => by simp [evParts] at h; subst h; rfl
  | (j, x) :: l, r, hg, h => by
    simp only [evParts] at h
    split at h
    · rename_i v hv
      split at h
      · rename_i vs' hvs
        injection h with h; subst h
        simp [ev_den ok (hg (j, x) (by simp)) hv, evParts_den ok (fun y hy => hg y (by simp [hy])) hvs]
      · cases h
    · cases h

theorem nth_eq {α : Type} : ∀ (l : List α) (n : Nat), nth l n = l[n]?
  | [], n => by cases n <;> rfl
  | x :: l, 0 => rfl
  | x :: l, n + 1 => by simp [nth_succ, nth_eq l n]
theorem getK_mem : ∀ {hp : Hp} {c bk : Nat} {cs : Ch}, getK hp c = some (bk, cs) → (c, bk, cs) ∈ hp
  | [], _, _, _, h => by cases h
  | (k, bk', cs') :: l, c, bk, cs, h => by
    simp only [getK_cons] at h
    split at h
    · rename_i hb
      injection h with h; injection h with h1 h2; subst h1; subst h2
      rw [Nat.eq_of_beq_eq_true hb]; simp
    · exact List.mem_cons_of_mem _ (getK_mem h)
theorem takeN_spec : ∀ {n : Nat} {l r : List SV}, takeN n l = some r → r = l.take n ∧ r.length = n
  | 0, l, r, h => by simp [takeN_zero] at h; subst h; simp
  | n + 1, [], r, h => by simp [takeN_nil] at h
  | n + 1, x :: l, r, h => by
    simp only [takeN_cons] at h
    split at h
    · rename_i q hq
      injection h with h; subst h
      obtain ⟨h1, h2⟩ := takeN_spec hq
      subst h1; simp at h2 ⊢; omega
    · cases h
theorem dropN_eq : ∀ (n : Nat) (l : List SV), dropN n l = l.drop n
  | 0, l => by simp [dropN_zero]
  | n + 1, [] => by simp [dropN_nil]
  | n + 1, x :: l => by simp [dropN_cons, dropN_eq n l]
theorem putN_spec : ∀ {n : Nat} {v l r : List SV}, putN n v l = some r → n + v.length ≤ l.length ∧ r = l.take n ++ v ++ l.drop (n + v.length)
  | 0, [], l, r, h => by simp [putN] at h; subst h; simp
  | 0, v :: vs, [], r, h => by simp [putN] at h
  | 0, v :: vs, x :: l, r, h => by
    simp only [putN] at h
    split at h
    · rename_i q hq
      injection h with h; subst h
      obtain ⟨h1, h2⟩ := putN_spec hq
      subst h2; simp at h1 ⊢; omega
    · cases h
  | n + 1, v, [], r, h => by simp [putN] at h
  | n + 1, v, x :: l, r, h => by
    simp only [putN] at h
    split at h
    · rename_i q hq
      injection h with h; subst h
      obtain ⟨h1, h2⟩ := putN_spec hq
      subst h2; simp [Nat.add_right_comm n 1] at h1 ⊢; omega
    · cases h
theorem packAs_spec {agg : Bool} {l : List SV} {v : SV} (h : packAs agg l = some v) : (agg = true ∧ v = .agg l) ∨ (agg = false ∧ l = [v]) := by
  unfold packAs at h
  split at h
  · injection h with h; exact .inl ⟨rfl, h.symm⟩
  · split at h
    · injection h with h; subst h; exact .inr ⟨rfl, rfl⟩
    · cases h

theorem cell_of_block {w : World} {b : Nat} {cs : Array Value} {E : TypeId} {f : Nat × Nat} (h : w.heap[b]? = some (.cells cs E f)) (o : Nat) : w.cell? ⟨b, o, none⟩ = cs[o]? := by
  simp [World.cell?, h]
theorem chOk_get {w : World} {bk : Nat} {cs : List SV} {r : Nat} (h : chOk w bk (.cells cs r)) {j : Nat} {y : SV} (hy : cs[j]? = some y) : w.cell? ⟨bk, j, none⟩ = some y.den := by
  obtain ⟨E, rest, h1, h2⟩ := h
  rw [cell_of_block h2]
  have hlt := (List.getElem?_eq_some_iff.1 hy).1
  simp only [List.getElem?_toArray]
  rw [List.getElem?_append_left (by simpa [dens_length] using hlt)]
  simp [dens_map, hy]
theorem add_plain (g o j : Nat) : (⟨g, o, none⟩ : Addr).add j = ⟨g, o + j, none⟩ := by unfold Addr.add; split <;> simp_all

theorem cellsOf_info {t : Nat} {i : TypeInfo} (h : P.info? t = some i) : P.cellsOf t = i.size := by simp [Program.cellsOf, h]

/-- what a load gives, out of cells at an address -/
theorem load_cells {t : Nat} {ti : TI} (hT : TiOk P t ti) {ad : Addr} {l : List SV} {v : SV} (hp : packAs ti.agg l = some v) (hn : l.length = ti.size)
    (hc : ∀ j x, l[j]? = some x → w.cell? (ad.add j) = some x.den) : (Instr.loadAt t (.pointer (some ad))).run P w = .ok v.den w := by
  obtain ⟨d, i, z, hu, hi, hsz, _, _, hagg, _, _, _⟩ := hT.ex
  have hsize : (sizeOf t).run P w = .ok ti.size w := by rw [run_sizeOf w hi, cellsOf_info hi, hsz]
  rcases packAs_spec hp with ⟨ha, rfl⟩ | ⟨ha, rfl⟩
  · have hag : (isAgg t).run P w = .ok true w := by
      unfold isAgg
      simp [run_underlying hu]
      rw [hagg] at ha
      split at ha <;> simp_all
    have hl := run_loadCells_list (P := P) (w := w) ad (SV.dens l) (fun j x hx => by
      simp [dens_map] at hx
      obtain ⟨y, hy, rfl⟩ := hx
      exact hc j y hy)
    rw [dens_length, hn] at hl
    simp [Instr.loadAt, Instr.sureAddr, loadVar, hag, hsize, hl, SV.den]
  · have hag : (isAgg t).run P w = .ok false w := by
      unfold isAgg
      simp [run_underlying hu]
      rw [hagg] at ha
      split at ha <;> simp_all
    have h0 := hc 0 v (by simp)
    have h0' : w.cell? ad = some v.den := by simpa [Addr.add] using h0
    simp [Instr.loadAt, Instr.sureAddr, loadVar, hag, h0']

theorem loadSV_run (hT : T.All (TiOk P)) (ok : OK base F env hp vs a w) {t : TypeId} {x v : SV} {sd : List Sd} (h : loadSV T hp vs t x = .val v sd) (hs : All sd) :
    (Instr.loadAt t x.den).run P w = .ok v.den w := by
  unfold loadSV at h
  split at h
  · cases h
  rename_i ti hti
  have ht := hT.find hti
  split at h
  · rename_i bk c off
    split at h
    · rename_i bk' cs r hk
      split at h
      · rename_i l hl
        split at h
        · rename_i v' hv
          injection h with h1 h2; subst h1; subst h2
          obtain ⟨hb, _⟩ := hs
          have hb : bk = bk' := hb
          have hE := ok.heap _ _ _ (getK_mem hk)
          obtain ⟨e1, e2⟩ := takeN_spec hl
          refine load_cells ht hv e2 (fun j y hy => ?_)
          rw [add_plain, hb]
          rw [e1, dropN_eq] at hy
          simp only [List.getElem?_take, List.getElem?_drop] at hy
          split at hy
          · exact chOk_get hE hy
          · cases hy
        · cases h
      · cases h
    · cases h
  · rename_i ad c ix off
    split at h
    · rename_i V hV
      split at h
      · rename_i l hl
        split at h
        · rename_i v' hv
          injection h with h1 h2; subst h1; subst h2
          obtain ⟨hb, hd, _⟩ := hs
          have hb : ad = V.ad ix := hb
          have hd : V.dom ix := hd
          rw [nth_eq] at hV
          have hc := ok.vs V (List.mem_of_getElem? hV) ix hd
          obtain ⟨e1, e2⟩ := takeN_spec hl
          refine load_cells ht hv e2 (fun j y hy => ?_)
          rw [e1, dropN_eq] at hy
          simp only [List.getElem?_take, List.getElem?_drop] at hy
          split at hy
          · obtain ⟨h1, hnb⟩ := hc y (off + j) (by rw [nth_eq]; exact hy)
            have h2 := World.block_lt_of_cell? _ _ h1
            have h3 : ((V.ad ix).add (off + j)).block = (V.ad ix).block := by unfold Addr.add; split <;> rfl
            have h4 : (ad.add off).add j = (V.ad ix).add (off + j) := by
              rw [hb]; unfold Addr.add
              split <;> split <;> (try split) <;> simp_all <;> omega
            rw [h4]
            rw [h3] at h2
            have h5 := ok.ext.block _ h2 hnb
            unfold World.cell? at h1 ⊢
            rw [h3] at h1 ⊢
            rw [h5]; exact h1
          · cases hy
        · cases h
      · cases h
    · cases h
  · cases h
end
end Go.Vd
