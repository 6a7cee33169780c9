/-  Package viaductlaw19: NodeNobody. -/
import Derived.Test.YtkdjikplcliijaaGreatT2
import Derived.Test.YtkdjikplcliijaaGreatFTM
import Derived.Test.YtkdjikplcliijaaGreatA19
namespace Go.Vd
section
variable {P : Program} {md : Md} {R : Ending → World → Prop} {N : Nat} {fn : Func} {base : World} {F : List Nat}
/-- a call that changes nothing that is known, and whose result is one of many -/
theorem call_roE (hM : MdOk P md) {f : FuncId} {args : List SV} {o : Oper} {s : St} {ks : List K} {X : Type} (v : X → SV) (Q : X → Prop) (hco : CallOk P f) (hs : All s.sides) (d : Nat) (hd : o.dst = some d) (hdN : d < N) (n : Nat)
    (hc : ∀ a w, Ok N base F s a w → Calls P f (SV.dens args).toArray w (fun e w' => (∃ x, Q x ∧ e = .returned (v x).den) ∧ Ext w [] w'))
    (H : ∀ x, Q x → ∀ fr, sem P N (bodyPost P fn R) R base F (run md fr n N fn.results.toList ((d, v x) :: s.env) s.hp s.vs [] s.nk ks [])) :
    sem P N (bodyPost P fn R) R base F (.call f args o s ks) :=
  ⟨hs, .inl ⟨hco, fun a w ok => (hc a w ok).mono fun e w' ⟨⟨x, hq, he⟩, hx⟩ => ⟨_, he, by rw [hd]; exact go hM n (ok.ro hx hdN (v x)) (H x hq)⟩⟩⟩
end
end Go.Vd
namespace Go.Vd.Tz
open Go.Proofs
set_option maxRecDepth 100000
noncomputable def mdM : Md := ⟨TT, fun _ _ _ _ => none, FTm.find, false, true⟩
theorem hmdM : MdOk Tryz.prog mdM := ⟨hTT, hmix, (fun _ _ _ _ _ _ h => by cases h), fun _ _ h => hFTm.find h⟩
section
variable (n : Nat → Int) (A : Nat → Option Addr) (l c : Nat → Nat) (up : Bool) (s : ByteArray) (g : Int → Nat → Int) (gu : Int → Bool)
theorem okVs_node {w : World} {vs : List MV} {B : Nat} (h : okVs w vs []) (hc : chOk w B (.cells [.it .i64 0, .nils, .nils, .nilp, .nilp, .nilp, .nilp, .nils, .it .i64 0, .nils, .nils] 0)) : okVs w (vs ++ [nodeV B]) [] := by
  intro V hV ix hd v j hj
  simp only [List.mem_append, List.mem_singleton] at hV
  rcases hV with hV | rfl
  · exact h V hV ix hd v j hj
  · refine ⟨?_, by simp⟩
    rw [nth_eq] at hj
    have := chOk_get hc hj
    rw [show (nodeV B).ad ix = ⟨B, 0, none⟩ from rfl, add_plain, Nat.zero_add]
    exact this
theorem nobody (w : World) (hl : (l 3 : Int) ≤ 9223372036854775807) (hA : 0 < l 3 → (A 3).isSome = true) (hv : okVs w [advV (A 3) (l 3) g gu] []) :
    Calls Tryz.prog 7 (SV.dens [.agg (actC n A l c up s)]).toArray w (fun e w' => e = .returned (.bool true) ∧ Ext w [] w') := by
  refine enter hmdM (fn := Tryz.f7) (c := (mkFI Tryz.f7).c) Tryz.func7 (by kernel_rfl) (mkFI Tryz.f7).N (by kernel_rfl) 900 [.agg (actC n A l c up s)] (by show 1 ≤ _; decide +kernel) [] 0 [] [advV (A 3) (l 3) g gu] (by intro k b c h; cases h) (by simp [blocks]) (by simp [blocks]) hv (fun fr => ?_)
  refine call_roE hmdM (X := Unit) (fun _ => .tt) (fun _ => True) Tryz.call8 (by repeat (first | exact trivial | rfl | exact fun _ => rfl | apply And.intro)) 11 rfl (by decide +kernel) 900 (fun a w ok => (alive w).mono fun e w' ⟨h1, h2⟩ => ⟨⟨(), trivial, h1⟩, h2⟩) (fun _ _ fr => ?_)
  refine ⟨by repeat (first | exact trivial | rfl | exact fun _ => rfl | apply And.intro), fun _ => ?_, fun h0 => ?_⟩
  · exact ⟨by repeat (first | exact trivial | rfl | exact fun _ => rfl | apply And.intro), fun a w' ok => ⟨rfl, ok.ok.ext⟩⟩
  refine ⟨by repeat (first | exact trivial | rfl | exact fun _ => rfl | apply And.intro), fun _ => ?_, fun h1 => by cases h1⟩
  refine call_roE hmdM (X := Int) (fun k => .it .i64 k) (fun k => k = 1 ∨ (n 0).tmod 10 = 8) Tryz.call13 (by repeat (first | exact trivial | rfl | exact fun _ => rfl | apply And.intro)) 26 rfl (by decide +kernel) 4000 (fun a w1 ok => (does_nil n A l c up s g gu w1 hl hA (okVs_ext hv ok.ok.ext (by simp))).mono fun e w' ⟨⟨k, h1, h2⟩, h3⟩ => ⟨⟨k, h2, h1⟩, h3⟩) (fun k hk fr => ?_)
  refine ⟨by repeat (first | exact trivial | rfl | exact fun _ => rfl | apply And.intro), fun h2 => ?_, fun _ => ?_⟩
  · exfalso
    have h2 : (k != 1 && (n 0).tmod 10 != 8) = true := h2
    rcases hk with rfl | hk
    · simp at h2
    · simp [hk] at h2
  repeat (first | refine ⟨by repeat (first | exact trivial | rfl | exact fun _ => rfl | apply And.intro), (fun h => absurd h (by decide +kernel)), fun _ => ?_⟩ | refine ⟨by repeat (first | exact trivial | rfl | exact fun _ => rfl | apply And.intro), fun _ => ?_, (fun h => absurd h (by decide +kernel))⟩)
  refine call_roE hmdM (X := Int) (fun k => .it .i64 k) (fun k => k = 1 ∨ (n 0).tmod 10 = 8) Tryz.call13 (by repeat (first | exact trivial | rfl | exact fun _ => rfl | apply And.intro)) 26 rfl (by decide +kernel) 4000 (fun a w1 ok => (does_zero n A l c up s g gu _ w1 hl hA (okVs_node (okVs_ext hv ok.ok.ext (by simp)) (ok.ok.heap _ _ _ (getK_mem (c := 2) rfl)))).mono fun e w' ⟨⟨k, h1, h2⟩, h3⟩ => ⟨⟨k, h2, h1⟩, h3⟩) (fun k hk fr => ?_)
  refine ⟨by repeat (first | exact trivial | rfl | exact fun _ => rfl | apply And.intro), fun h2 => ?_, fun _ => ?_⟩
  · exfalso
    have h2 : (k != 1 && (n 0).tmod 10 != 8) = true := h2
    rcases hk with rfl | hk
    · simp at h2
    · simp [hk] at h2
  repeat (first | refine ⟨by repeat (first | exact trivial | rfl | exact fun _ => rfl | apply And.intro), (fun h => absurd h (by decide +kernel)), fun _ => ?_⟩ | refine ⟨by repeat (first | exact trivial | rfl | exact fun _ => rfl | apply And.intro), fun _ => ?_, (fun h => absurd h (by decide +kernel))⟩)
  exact ⟨by repeat (first | exact trivial | rfl | exact fun _ => rfl | apply And.intro), fun a w' ok => ⟨rfl, ok.ok.ext⟩⟩
end
end Go.Vd.Tz
