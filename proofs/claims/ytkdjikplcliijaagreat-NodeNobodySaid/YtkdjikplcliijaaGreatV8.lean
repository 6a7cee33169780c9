/-  What a proof of a function uses of the evaluator. -/
import Derived.Test.YtkdjikplcliijaaGreatV7
namespace Go.Vd

theorem Ext.refl (w : World) (bs : List Nat) : Ext w bs w := ⟨rfl, rfl, rfl, Nat.le_refl _, fun _ _ _ => rfl⟩
theorem Ext.trans {w0 w1 w2 : World} {bs cs : List Nat} (h1 : Ext w0 bs w1) (h2 : Ext w1 cs w2) : Ext w0 (bs ++ cs) w2 :=
  ⟨h2.os.trans h1.os, h2.tape.trans h1.tape, h2.output.trans h1.output, Nat.le_trans h1.size h2.size, fun b hb hn => by
    simp only [List.mem_append, not_or] at hn
    rw [h2.block b (Nat.lt_of_lt_of_le hb h1.size) hn.2, h1.block b hb hn.1]⟩
/-- blocks that are new, or that have not changed, need not be named -/
theorem Ext.less {w0 w1 : World} {bs cs : List Nat} (h : Ext w0 bs w1) (hc : ∀ b ∈ bs, b < w0.heap.size → b ∈ cs) : Ext w0 cs w1 :=
  ⟨h.os, h.tape, h.output, h.size, fun b hb hn => h.block b hb (fun hm => hn (hc b hm hb))⟩
theorem Ext.new {w0 w1 : World} {bs : List Nat} (h : Ext w0 bs w1) (hc : ∀ b ∈ bs, w0.heap.size ≤ b) : Ext w0 [] w1 :=
  h.less (fun b hb hl => by have := hc b hb; omega)
theorem Ext.ro {w0 w1 w2 : World} {bs : List Nat} (h1 : Ext w0 bs w1) (h2 : Ext w1 [] w2) : Ext w0 bs w2 := by
  have := h1.trans h2; simpa using this
theorem Ext.cell {w0 w1 : World} {bs : List Nat} (h : Ext w0 bs w1) {a : Addr} {v : Value} (hc : w0.cell? a = some v) (hn : a.block ∉ bs) : w1.cell? a = some v := by
  have hb := World.block_lt_of_cell? _ _ hc
  unfold World.cell? at hc ⊢
  rw [h.block _ hb hn]; exact hc
theorem Ext.lt {w0 w1 : World} {bs : List Nat} (h : Ext w0 bs w1) {b : Nat} (hb : b < w0.heap.size) : b < w1.heap.size := Nat.lt_of_lt_of_le hb h.size

theorem chOk_ext {w w' : World} {F : List Nat} {bk : Nat} {ch : Ch} (h : chOk w bk ch) (hx : Ext w F w') (hn : bk ∉ F) : chOk w' bk ch := by
  cases ch with
  | cells l r => obtain ⟨E, q, h3, h4⟩ := h; exact ⟨E, q, h3, by rw [hx.block bk (Array.getElem?_eq_some_iff.1 h4).1 hn]; exact h4⟩
  | map l => obtain ⟨es, ck, h3, h4⟩ := h; exact ⟨es, ck, by rw [hx.block bk (Array.getElem?_eq_some_iff.1 h3).1 hn]; exact h3, h4⟩
theorem okHp_ext {hp : Hp} {w w' : World} {F : List Nat} (h : okHp hp w) (hx : Ext w F w') (hn : ∀ b ∈ blocks hp, b ∉ F) : okHp hp w' :=
  fun k b cs hm => chOk_ext (h k b cs hm) hx (hn b (List.mem_map.2 ⟨_, hm, rfl⟩))
theorem okVs_ext {vs : List MV} {base w : World} {bs F : List Nat} (h : okVs base vs bs) (hx : Ext base F w) (hn : ∀ V ∈ vs, ∀ ix, V.dom ix → ∀ v j, nth (V.rd ix) j = some v → (V.ad ix).block ∉ F) : okVs w vs bs := by
  intro V hV ix hd v j hj
  obtain ⟨h1, h2⟩ := h V hV ix hd v j hj
  have h3 : ((V.ad ix).add j).block = (V.ad ix).block := by unfold Addr.add; split <;> rfl
  exact ⟨hx.cell h1 (by rw [h3]; exact hn V hV ix hd v j hj), h2⟩

section
variable {P : Program} {md : Md} {R : Ending → World → Prop} {N n : Nat} {fn : Func} {base : World} {F : List Nat}

theorem enter (hM : MdOk P md) {f : FuncId} {c : Code} {w : World} (hf : P.funcs[f]? = some fn) (hb : fn.body = some c) (N : Nat) (hN : fn.ntmps = N) (n : Nat)
    (args : List SV) (hargs : args.length ≤ N) (hp : Hp) (nk : Nat) (F : List Nat) (vs : List MV) (h1 : okHp hp w) (h2 : (blocks hp).Nodup) (h3 : ∀ b ∈ blocks hp, b ∈ F) (h4 : okVs w vs F)
    (H : ∀ fr, sem P N (bodyPost P fn R) R w F (run md fr n N fn.results.toList (parEnv args) hp vs [] nk [.c c] [])) : Calls P f (SV.dens args).toArray w R := by
  refine calls_of_wp hf hb ?_
  have hsz : ((SV.dens args).toArray ++ Array.replicate (fn.ntmps - (SV.dens args).toArray.size) undef).size = N := by
    simp [dens_length, hN]; omega
  refine run_sound hM n w F (InclS.refl h4) N _ _ (parEnv args) hp [] nk [.c c] [.c c] [] [] 0 0 .nil (KRel.refl _ (Nat.le_refl _) _) (.nil nk) (fun fr _ => H fr) _ w ⟨rfl, ?_, h1, h2, fun b hb => .inl (h3 b hb), Ext.refl _ _, h4⟩ hsz
  rw [hN]
  exact par_ok hargs

/-- go on in a state that is known -/
theorem go (hM : MdOk P md) (n : Nat) {s : St} {ks : List K} {a : Act} {w : World} (ok : Ok N base F s a w)
    (H : ∀ fr, sem P N (bodyPost P fn R) R base F (run md fr n N fn.results.toList s.env s.hp s.vs [] s.nk ks [])) : KX P (bodyPost P fn R) ks .normal a w :=
  run_sound hM n base F (InclS.refl ok.ok.vs) N _ _ s.env s.hp [] s.nk ks ks [] [] 0 0 .nil (KRel.refl _ (Nat.le_refl _) _) (.nil s.nk) (fun fr _ => H fr) a w ok.ok ok.size

theorem Ok.sides {s : St} {a : Act} {w : World} (ok : Ok N base F s a w) (sd : List Sd) (nk : Nat) : Ok N base F ⟨s.env, s.hp, s.vs, sd, nk⟩ a w := ⟨ok.ok, ok.size⟩

/-- behind a call that changed nothing that is known -/
theorem Ok.ro {s : St} {a : Act} {w w' : World} (ok : Ok N base F s a w) (hx : Ext w [] w') {d : Nat} (hd : d < N) (v : SV) : Ok N base F ⟨(d, v) :: s.env, s.hp, s.vs, [], s.nk⟩ (a.put (some d) v.den) w' :=
  ⟨ok_put (ok_ro ok.ok hx) (by rw [ok.size]; exact hd), by rw [size_put]; exact ok.size⟩
/-- behind a call: what is known of the memory is told anew -/
theorem Ok.anew {s : St} {a : Act} {w w' : World} (ok : Ok N base F s a w) {d : Nat} (hd : d < N) (v : SV) {hp : Hp} {vs : List MV} {F' : List Nat} (h1 : okHp hp w') (h2 : (blocks hp).Nodup) (h3 : ∀ b ∈ blocks hp, b ∈ F') (h4 : okVs w' vs F') (nk : Nat) :
    Ok N w' F' ⟨(d, v) :: s.env, hp, vs, [], nk⟩ (a.put (some d) v.den) w' :=
  ⟨ok_put ⟨ok.ok.defers, ok.ok.env, h1, h2, fun b hb => .inl (h3 b hb), Ext.refl _ _, h4⟩ (by rw [ok.size]; exact hd), by rw [size_put]; exact ok.size⟩

/-- a call that changes nothing that is known, and whose result is plain -/
theorem call_ro (hM : MdOk P md) {f : FuncId} {args : List SV} {o : Oper} {s : St} {ks : List K} (hco : CallOk P f) (hs : All s.sides) (d : Nat) (hd : o.dst = some d) (hdN : d < N) (v : SV) (n : Nat)
    (hc : ∀ a w, Ok N base F s a w → Calls P f (SV.dens args).toArray w (fun e w' => e = .returned v.den ∧ Ext w [] w'))
    (H : ∀ fr, sem P N (bodyPost P fn R) R base F (run md fr n N fn.results.toList ((d, v) :: s.env) s.hp s.vs [] s.nk ks [])) :
    sem P N (bodyPost P fn R) R base F (.call f args o s ks) :=
  ⟨hs, .inl ⟨hco, fun a w ok => (hc a w ok).mono fun e w' ⟨he, hx⟩ => ⟨_, he, by rw [hd]; exact go hM n (ok.ro hx hdN v) H⟩⟩⟩

def envLe (env : Env) : Env → Prop
  | [] => True
  | (t, v) :: l => (∃ u, look env t = some u ∧ u.den = v.den) ∧ envLe env l
theorem envLe_look {env : Env} : ∀ {l : Env} {t : Nat} {v : SV}, envLe env l → look l t = some v → ∃ u, look env t = some u ∧ u.den = v.den
  | [], _, _, _, h => by cases h
  | (k, x) :: l, t, v, he, h => by
    simp only [look_cons] at h
    split at h
    · rename_i hk
      injection h with h; subst h
      have := Nat.eq_of_beq_eq_true hk; subst this
      exact he.1
    · exact envLe_look he.2 h
/-- less is known of the temporaries, and of memory -/
theorem Ok.weaken {s : St} {a : Act} {w : World} (ok : Ok N base F s a w) {env : Env} (he : envLe s.env env) {hp : Hp} (hh : okHp hp w) (hnd : (blocks hp).Nodup) (ho : ∀ b ∈ blocks hp, b ∈ F ∨ base.heap.size ≤ b) (sd : List Sd) (nk : Nat) :
    Ok N base F ⟨env, hp, s.vs, sd, nk⟩ a w := by
  refine ⟨⟨ok.ok.defers, ?_, hh, hnd, ho, ok.ok.ext, ok.ok.vs⟩, ok.size⟩
  intro t v hl
  obtain ⟨u, h1, h2⟩ := envLe_look he hl
  obtain ⟨h3, h4⟩ := ok.ok.env t u h1
  exact ⟨h3, by rw [h4, h2]⟩

/-- a loop: X numbers the states at its head -/
theorem loop_sound (hM : MdOk P md) {body : Code} {s : St} {ks : List K} (hs : All s.sides) {X : Type} (B : X → World) (G : X → List Nat) (S : X → St) (μ : X → Nat) (n : Nat)
    (hinit : ∀ a w, Ok N base F s a w → ∃ x, Ok N (B x) (G x) (S x) a w)
    (hround : ∀ x fr, sem P N (bodyPost P fn R) R (B x) (G x) (run md fr n N fn.results.toList (S x).env (S x).hp (S x).vs [] (S x).nk (.c body :: .inv (fun a w => ∃ x', μ x' < μ x ∧ Ok N (B x') (G x') (S x') a w) :: ks) [])) :
    sem P N (bodyPost P fn R) R base F (.loop body s ks) := by
  refine ⟨hs, fun a w ok => ?_⟩
  have hmin : ∀ (a : Act) (w : World), (∃ x, Ok N (B x) (G x) (S x) a w) → ∃ x, Ok N (B x) (G x) (S x) a w ∧ ∀ y, Ok N (B y) (G y) (S y) a w → μ x ≤ μ y := by
    intro a w ⟨x, hx⟩
    have key : ∀ (m : Nat) (x : X), μ x = m → Ok N (B x) (G x) (S x) a w → ∃ x, Ok N (B x) (G x) (S x) a w ∧ ∀ y, Ok N (B y) (G y) (S y) a w → μ x ≤ μ y := by
      intro m
      induction m using Nat.strongRecOn with
      | _ m ih =>
        intro x hm hx
        by_cases h : ∃ y, Ok N (B y) (G y) (S y) a w ∧ μ y < m
        · obtain ⟨y, hy, hlt⟩ := h
          exact ih (μ y) hlt y rfl hy
        · exact ⟨x, hx, fun y hy => by
            rcases Nat.lt_or_ge (μ y) m with h' | h'
            · exact absurd ⟨y, hy, h'⟩ h
            · omega⟩
    exact key _ x rfl hx
  have hμ : ∃ m : Act → World → Nat, ∀ a w, (∃ x, Ok N (B x) (G x) (S x) a w) → ∃ x, Ok N (B x) (G x) (S x) a w ∧ μ x = m a w ∧ ∀ y, Ok N (B y) (G y) (S y) a w → m a w ≤ μ y := by
    refine ⟨fun a w => Classical.epsilon (fun k => ∃ x, Ok N (B x) (G x) (S x) a w ∧ μ x = k ∧ ∀ y, Ok N (B y) (G y) (S y) a w → k ≤ μ y), fun a w h => ?_⟩
    obtain ⟨x, hx, hm⟩ := hmin a w h
    have := Classical.epsilon_spec (p := fun k => ∃ x, Ok N (B x) (G x) (S x) a w ∧ μ x = k ∧ ∀ y, Ok N (B y) (G y) (S y) a w → k ≤ μ y) ⟨μ x, x, hx, rfl, hm⟩
    exact this
  obtain ⟨m, hm⟩ := hμ
  refine wp_loop (fun a w => ∃ x, Ok N (B x) (G x) (S x) a w) m (hinit a w ok) (fun a w hI => ?_)
  obtain ⟨x, hx, hxm, _⟩ := hm a w hI
  have h1 := go (P := P) (R := R) (fn := fn) hM n hx (hround x)
  refine wp_mono h1 (fun e a' w' h => ?_)
  cases e with
  | normal =>
    obtain ⟨x', hlt, hx'⟩ := h
    obtain ⟨_, _, _, hle⟩ := hm a' w' ⟨x', hx'⟩
    exact ⟨⟨x', hx'⟩, by have := hle x' hx'; omega⟩
  | _ => exact h

/-! ### A run on numbers alone -/
inductive TN where
  | leaf (n : Nat)
  | int (n : Int)
  | bool (n : Bool)
  | node (x y : TN)
def Sd.lt : Sd → TN
  | .eq a _ => .leaf a
  | .ei a _ => .int a
  | .eb a _ => .bool a
  | .pr _ => .leaf 0
  | .node _ x y => .node x.lt y.lt
def Sd.rt : Sd → TN
  | .eq _ b => .leaf b
  | .ei _ b => .int b
  | .eb _ b => .bool b
  | .pr _ => .leaf 1
  | .node _ x y => .node x.rt y.rt
theorem Sd.of_lr : ∀ {s : Sd}, s.lt = s.rt → s.holds
  | .eq a b, h => by simp only [Sd.lt, Sd.rt] at h; injection h
  | .ei a b, h => by simp only [Sd.lt, Sd.rt] at h; injection h
  | .eb a b, h => by simp only [Sd.lt, Sd.rt] at h; injection h
  | .pr p, h => by simp only [Sd.lt, Sd.rt] at h; injection h with h; cases h
  | .node _ x y, h => by simp only [Sd.lt, Sd.rt] at h; injection h with h1 h2; exact ⟨Sd.of_lr h1, Sd.of_lr h2⟩
def lts : List Sd → List TN
  | [] => []
  | x :: l => x.lt :: lts l
def rts : List Sd → List TN
  | [] => []
  | x :: l => x.rt :: rts l
theorem All.of_lr : ∀ {l : List Sd}, lts l = rts l → All l
  | [], _ => trivial
  | x :: l, h => by simp only [lts, rts] at h; injection h with h1 h2; exact ⟨Sd.of_lr h1, All.of_lr h2⟩
/-- the run comes to its end, and answers true -/
def ansL : Out → Option (List TN)
  | .ret v s => match v with
    | .tt => some (lts s.sides)
    | .bo p => match p with
      | true => some (lts s.sides)
      | false => none
    | _ => none
  | _ => none
def ansR : Out → Option (List TN)
  | .ret v s => match v with
    | .tt => some (rts s.sides)
    | .bo p => match p with
      | true => some (rts s.sides)
      | false => some []
    | _ => some []
  | _ => some []
theorem sem_true {o : Out} (h : ansL o = ansR o) (hR : ∀ w', Ext base F w' → R (.returned (.bool true)) w') (Q : Exit → Act → World → Prop) : sem P N Q R base F o := by
  unfold ansL ansR at h
  split at h
  · rename_i v s
    split at h
    · injection h with h
      exact ⟨All.of_lr h, fun a w ok => hR w ok.ok.ext⟩
    · split at h
      · injection h with h
        exact ⟨All.of_lr h, fun a w ok => hR w ok.ok.ext⟩
      · cases h
    · cases h
  · cases h
end
end Go.Vd
