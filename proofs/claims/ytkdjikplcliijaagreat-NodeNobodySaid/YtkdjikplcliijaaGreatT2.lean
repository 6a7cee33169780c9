/-  Package viaductlaw19: what a node that no call made answers. -/
import Derived.Test.YtkdjikplcliijaaGreatT1
namespace Go.Vd.Tz
open Go.Proofs
set_option maxRecDepth 100000
/-- an Act's cells -/
def actC (n : Nat → Int) (A : Nat → Option Addr) (l c : Nat → Nat) (up : Bool) (s : ByteArray) : List SV :=
  [.it .u8 (n 0), .it .i64 (n 1), .it .i64 (n 2),
   .it .i64 (n 3), .it .i64 (n 4), .it .i64 (n 5), .it .i64 (n 6), .it .i64 (n 7), .it .i64 (n 8), .it .i64 (n 9), .it .i64 (n 10), .it .i64 (n 11), .it .u64 (n 12), .it .i64 (n 13), .it .i64 (n 14), .it .u32 (n 15), .it .u32 (n 16), .it .u32 (n 17), .sl (A 0) 0 (l 0) (c 0), .sl (A 1) 0 (l 1) (c 1), .it .i64 (n 20), .it .i64 (n 21), .it .i64 (n 22),
   .it .i64 (n 23), .it .i64 (n 24), .it .i64 (n 25), .it .i64 (n 26), .it .u64 (n 27), .it .i64 (n 28), .it .i64 (n 29), .it .u32 (n 30), .it .u32 (n 31), .it .u32 (n 32), .sl (A 2) 0 (l 2) (c 2), .bo up, .it .i64 (n 35), .sl (A 3) 0 (l 3) (c 3), .sl (A 4) 0 (l 4) (c 4), .it .i64 (n 38), .it .i64 (n 39), .str s]
/-- adverts, as they lie -/
def advV (A : Option Addr) (len : Nat) (g : Int → Nat → Int) (gu : Int → Bool) : MV where
  ad i := (A.getD ⟨0, 0, none⟩).add (i.toNat * 15)
  dom i := 0 ≤ i ∧ i < (len : Int)
  rd i := [.it .i64 (g i 0), .it .i64 (g i 1), .it .u64 (g i 2), .it .i64 (g i 3), .it .u32 (g i 4), .it .i64 (g i 5), .bo (gu i), .it .u64 (g i 7), .it .u64 (g i 8), .it .u64 (g i 9), .it .u64 (g i 10), .it .u64 (g i 11), .it .u64 (g i 12), .it .u64 (g i 13), .it .u64 (g i 14)]
/-- a node that no call made -/
def nodeV (B : Nat) : MV where
  ad _ := ⟨B, 0, none⟩
  dom _ := True
  rd _ := [.it .i64 0, .nils, .nils, .nilp, .nilp, .nilp, .nilp, .nils, .it .i64 0, .nils, .nils]
theorem wrap_i64 {x : Int} (h1 : -9223372036854775808 ≤ x) (h2 : x ≤ 9223372036854775807) : IntKind.i64.wrap x = x := by
  simp [IntKind.wrap, IntKind.signed, IntKind.bits]
  omega
section
variable (n : Nat → Int) (A : Nat → Option Addr) (l c : Nat → Nat) (up : Bool) (s : ByteArray) (g : Int → Nat → Int) (gu : Int → Bool)
abbrev doesR (n : Nat → Int) (w : World) : Ending → World → Prop := fun e w' => (∃ k, e = .returned (.int .i64 k) ∧ (k = 1 ∨ (n 0).tmod 10 = 8)) ∧ Ext w [] w'
theorem does_nil (w : World) (hl : (l 3 : Int) ≤ 9223372036854775807) (hA : 0 < l 3 → (A 3).isSome = true) (hv : okVs w [advV (A 3) (l 3) g gu] []) :
    Calls Tryz.prog 13 (SV.dens [.nilp, .agg (actC n A l c up s)]).toArray w (doesR n w) := by
  refine enter hmdN (fn := Tryz.f13) (c := (mkFI Tryz.f13).c) Tryz.func13 (by kernel_rfl) (mkFI Tryz.f13).N (by kernel_rfl) 900 [.nilp, .agg (actC n A l c up s)] (by show 2 ≤ _; decide +kernel) [] 0 [] [advV (A 3) (l 3) g gu] (by intro k b c h; cases h) (by simp [blocks]) (by simp [blocks]) hv (fun fr => ?_)
  refine ⟨⟨rfl, trivial⟩, fun _ => ?_, fun h0 => ?_⟩
  · exact ⟨by repeat (first | exact trivial | rfl | apply And.intro), fun a w' ok => ⟨⟨1, rfl, .inl rfl⟩, ok.ok.ext⟩⟩
  refine ⟨by repeat (first | exact trivial | rfl | apply And.intro), fun _ => ?_, fun h1 => ?_⟩
  · exact ⟨by repeat (first | exact trivial | rfl | apply And.intro), fun a w' ok => ⟨⟨1, rfl, .inl rfl⟩, ok.ok.ext⟩⟩
  refine ⟨by repeat (first | exact trivial | rfl | apply And.intro), fun _ => ?_, fun h2 => ?_⟩
  · exact ⟨by repeat (first | exact trivial | rfl | apply And.intro), fun a w' ok => ⟨⟨1, rfl, .inl rfl⟩, ok.ok.ext⟩⟩
  refine ⟨by repeat (first | exact trivial | rfl | apply And.intro), fun _ => ?_, fun h3 => ?_⟩
  · exact ⟨by repeat (first | exact trivial | rfl | apply And.intro), fun a w' ok => ⟨⟨1, rfl, .inl rfl⟩, ok.ok.ext⟩⟩
  refine ⟨by repeat (first | exact trivial | rfl | apply And.intro), fun _ => ?_, fun h4 => ?_⟩
  · exact ⟨by repeat (first | exact trivial | rfl | apply And.intro), fun a w' ok => ⟨⟨1, rfl, .inl rfl⟩, ok.ok.ext⟩⟩
  refine ⟨by repeat (first | exact trivial | rfl | apply And.intro), fun _ => ?_, fun h5 => ?_⟩
  · exact ⟨by repeat (first | exact trivial | rfl | apply And.intro), fun a w' ok => ⟨⟨1, rfl, .inl rfl⟩, ok.ok.ext⟩⟩
  refine ⟨by repeat (first | exact trivial | rfl | apply And.intro), fun _ => ?_, fun h6 => ?_⟩
  · exact ⟨by repeat (first | exact trivial | rfl | apply And.intro), fun a w' ok => ⟨⟨1, rfl, .inl rfl⟩, ok.ok.ext⟩⟩
  refine ⟨by repeat (first | exact trivial | rfl | apply And.intro), fun _ => ?_, fun h7 => ?_⟩
  · exact ⟨by repeat (first | exact trivial | rfl | apply And.intro), fun a w' ok => ⟨⟨1, rfl, .inl rfl⟩, ok.ok.ext⟩⟩
  refine ⟨by repeat (first | exact trivial | rfl | apply And.intro), fun h8 => ?_, fun _ => ?_⟩
  · have h8 : (n 0).tmod 10 = 8 := eq_of_beq h8
    refine loop_sound hmdN (by repeat (first | exact trivial | rfl | apply And.intro)) (X := {i : Int // 0 ≤ i ∧ i ≤ (l 3 : Int)}) (fun _ => w) (fun _ => []) (fun i => ⟨[(79, .it .i64 i.1), (78, .it .i64 (l 3 : Int)), (77, .sl (A 3) 0 (l 3) (c 3)), (0, .nilp)], [], [advV (A 3) (l 3) g gu], [], 1000⟩) (fun i => ((l 3 : Int) - i.1).toNat) 400 ?_ ?_
    · intro a w' ok
      exact ⟨⟨0, by omega, by omega⟩, ok.weaken (env := [(79, .it .i64 0), (78, .it .i64 (l 3 : Int)), (77, .sl (A 3) 0 (l 3) (c 3)), (0, .nilp)]) ⟨⟨_, rfl, rfl⟩, ⟨_, rfl, rfl⟩, ⟨_, rfl, rfl⟩, ⟨_, rfl, rfl⟩, trivial⟩ (by intro k b c h; cases h) (by simp [blocks]) (by simp [blocks]) [] 1000⟩
    · intro ⟨i, hi0, hil⟩ fr
      refine ⟨by repeat (first | exact trivial | rfl | apply And.intro), fun hlt => ?_, fun _ => ?_⟩
      · have hlt : i < (l 3 : Int) := of_decide_eq_true hlt
        refine ⟨?_, fun a w' ok => ?_⟩
        · repeat (first | exact trivial | rfl | apply And.intro)
          · exact hi0
          · exact hlt
          · exact ⟨⟨hi0, hlt⟩, hA (by omega), trivial⟩
        · refine ⟨⟨i + 1, by omega, by omega⟩, by show ((l 3 : Int) - (i + 1)).toNat < ((l 3 : Int) - i).toNat; omega, ok.weaken (env := [(79, .it .i64 (i + 1)), (78, .it .i64 (l 3 : Int)), (77, .sl (A 3) 0 (l 3) (c 3)), (0, .nilp)]) ⟨⟨_, rfl, ?_⟩, ⟨_, rfl, rfl⟩, ⟨_, rfl, rfl⟩, ⟨_, rfl, rfl⟩, trivial⟩ (by intro k b c h; cases h) (by simp [blocks]) (by simp [blocks]) [] 1000⟩
          show Value.int .i64 (IntKind.i64.wrap (i + 1)) = _
          rw [wrap_i64 (by omega) (by omega)]
          rfl
      · refine ⟨by repeat (first | exact trivial | rfl | apply And.intro), fun a w' ok => ⟨⟨0, rfl, .inr h8⟩, ok.ok.ext⟩⟩
  · exact ⟨by repeat (first | exact trivial | rfl | apply And.intro), fun a w' ok => ⟨⟨1, rfl, .inl rfl⟩, ok.ok.ext⟩⟩
theorem does_zero (B : Nat) (w : World) (hl : (l 3 : Int) ≤ 9223372036854775807) (hA : 0 < l 3 → (A 3).isSome = true) (hv : okVs w [advV (A 3) (l 3) g gu, nodeV B] []) :
    Calls Tryz.prog 13 (SV.dens [.pv ⟨B, 0, none⟩ 1 0 0, .agg (actC n A l c up s)]).toArray w (doesR n w) := by
  refine enter hmdN (fn := Tryz.f13) (c := (mkFI Tryz.f13).c) Tryz.func13 (by kernel_rfl) (mkFI Tryz.f13).N (by kernel_rfl) 900 [.pv ⟨B, 0, none⟩ 1 0 0, .agg (actC n A l c up s)] (by show 2 ≤ _; decide +kernel) [] 0 [] [advV (A 3) (l 3) g gu, nodeV B] (by intro k b c h; cases h) (by simp [blocks]) (by simp [blocks]) hv (fun fr => ?_)
  refine ⟨⟨rfl, trivial⟩, fun _ => ?_, fun h0 => ?_⟩
  · exact ⟨by repeat (first | exact trivial | rfl | apply And.intro), fun a w' ok => ⟨⟨1, rfl, .inl rfl⟩, ok.ok.ext⟩⟩
  refine ⟨by repeat (first | exact trivial | rfl | apply And.intro), fun _ => ?_, fun h1 => ?_⟩
  · exact ⟨by repeat (first | exact trivial | rfl | apply And.intro), fun a w' ok => ⟨⟨1, rfl, .inl rfl⟩, ok.ok.ext⟩⟩
  refine ⟨by repeat (first | exact trivial | rfl | apply And.intro), fun _ => ?_, fun h2 => ?_⟩
  · exact ⟨by repeat (first | exact trivial | rfl | apply And.intro), fun a w' ok => ⟨⟨1, rfl, .inl rfl⟩, ok.ok.ext⟩⟩
  refine ⟨by repeat (first | exact trivial | rfl | apply And.intro), fun _ => ?_, fun h3 => ?_⟩
  · exact ⟨by repeat (first | exact trivial | rfl | apply And.intro), fun a w' ok => ⟨⟨1, rfl, .inl rfl⟩, ok.ok.ext⟩⟩
  refine ⟨by repeat (first | exact trivial | rfl | apply And.intro), fun _ => ?_, fun h4 => ?_⟩
  · exact ⟨by repeat (first | exact trivial | rfl | apply And.intro), fun a w' ok => ⟨⟨1, rfl, .inl rfl⟩, ok.ok.ext⟩⟩
  refine ⟨by repeat (first | exact trivial | rfl | apply And.intro), fun _ => ?_, fun h5 => ?_⟩
  · exact ⟨by repeat (first | exact trivial | rfl | apply And.intro), fun a w' ok => ⟨⟨1, rfl, .inl rfl⟩, ok.ok.ext⟩⟩
  refine ⟨by repeat (first | exact trivial | rfl | apply And.intro), fun _ => ?_, fun h6 => ?_⟩
  · exact ⟨by repeat (first | exact trivial | rfl | apply And.intro), fun a w' ok => ⟨⟨1, rfl, .inl rfl⟩, ok.ok.ext⟩⟩
  refine ⟨by repeat (first | exact trivial | rfl | apply And.intro), fun _ => ?_, fun h7 => ?_⟩
  · exact ⟨by repeat (first | exact trivial | rfl | apply And.intro), fun a w' ok => ⟨⟨1, rfl, .inl rfl⟩, ok.ok.ext⟩⟩
  refine ⟨by repeat (first | exact trivial | rfl | apply And.intro), fun h8 => ?_, fun _ => ?_⟩
  · have h8 : (n 0).tmod 10 = 8 := eq_of_beq h8
    refine loop_sound hmdN (by repeat (first | exact trivial | rfl | apply And.intro)) (X := {i : Int // 0 ≤ i ∧ i ≤ (l 3 : Int)}) (fun _ => w) (fun _ => []) (fun i => ⟨[(79, .it .i64 i.1), (78, .it .i64 (l 3 : Int)), (77, .sl (A 3) 0 (l 3) (c 3)), (0, .pv ⟨B, 0, none⟩ 1 0 0)], [], [advV (A 3) (l 3) g gu, nodeV B], [], 1000⟩) (fun i => ((l 3 : Int) - i.1).toNat) 400 ?_ ?_
    · intro a w' ok
      exact ⟨⟨0, by omega, by omega⟩, ok.weaken (env := [(79, .it .i64 0), (78, .it .i64 (l 3 : Int)), (77, .sl (A 3) 0 (l 3) (c 3)), (0, .pv ⟨B, 0, none⟩ 1 0 0)]) ⟨⟨_, rfl, rfl⟩, ⟨_, rfl, rfl⟩, ⟨_, rfl, rfl⟩, ⟨_, rfl, rfl⟩, trivial⟩ (by intro k b c h; cases h) (by simp [blocks]) (by simp [blocks]) [] 1000⟩
    · intro ⟨i, hi0, hil⟩ fr
      refine ⟨by repeat (first | exact trivial | rfl | apply And.intro), fun hlt => ?_, fun _ => ?_⟩
      · have hlt : i < (l 3 : Int) := of_decide_eq_true hlt
        refine ⟨?_, fun a w' ok => ?_⟩
        · repeat (first | exact trivial | rfl | apply And.intro)
          · exact hi0
          · exact hlt
          · exact ⟨⟨hi0, hlt⟩, hA (by omega), trivial⟩
        · refine ⟨⟨i + 1, by omega, by omega⟩, by show ((l 3 : Int) - (i + 1)).toNat < ((l 3 : Int) - i).toNat; omega, ok.weaken (env := [(79, .it .i64 (i + 1)), (78, .it .i64 (l 3 : Int)), (77, .sl (A 3) 0 (l 3) (c 3)), (0, .pv ⟨B, 0, none⟩ 1 0 0)]) ⟨⟨_, rfl, ?_⟩, ⟨_, rfl, rfl⟩, ⟨_, rfl, rfl⟩, ⟨_, rfl, rfl⟩, trivial⟩ (by intro k b c h; cases h) (by simp [blocks]) (by simp [blocks]) [] 1000⟩
          show Value.int .i64 (IntKind.i64.wrap (i + 1)) = _
          rw [wrap_i64 (by omega) (by omega)]
          rfl
      · refine ⟨by repeat (first | exact trivial | rfl | apply And.intro), fun a w' ok => ⟨⟨0, rfl, .inr h8⟩, ok.ok.ext⟩⟩
  · exact ⟨by repeat (first | exact trivial | rfl | apply And.intro), fun a w' ok => ⟨⟨1, rfl, .inl rfl⟩, ok.ok.ext⟩⟩
end
end Go.Vd.Tz
