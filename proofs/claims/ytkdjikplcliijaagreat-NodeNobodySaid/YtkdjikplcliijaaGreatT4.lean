/-  Package viaductlaw19: NodeNobody: what a reading of an Act tells. -/
import Derived.Test.YtkdjikplcliijaaGreatT3
import Derived.Test.YtkdjikplcliijaaGreatC0
namespace Go.Vd.Tz
open Go.Proofs
set_option maxRecDepth 100000
def K46 : List CK := [.int .u8, .int .i64, .int .i64, .int .i64, .int .i64, .int .i64, .int .i64, .int .i64, .int .i64, .int .i64, .int .i64, .int .i64, .int .u64, .int .i64, .int .i64, .int .u32, .int .u32, .int .u32, .sl 3, .sl 3, .int .i64, .int .i64, .int .i64, .int .i64, .int .i64, .int .i64, .int .i64, .int .u64, .int .i64, .int .i64, .int .u32, .int .u32, .int .u32, .sl 3, .bo, .int .i64, .sl 107, .sl 218, .int .i64, .int .i64, .st]
def K107 : List CK := [.int .i64, .int .i64, .int .u64, .int .i64, .int .u32, .int .i64, .bo, .int .u64, .int .u64, .int .u64, .int .u64, .int .u64, .int .u64, .int .u64, .int .u64]
theorem k46 : ckB Tryz.prog 6 46 = some K46 := by kernel_rfl
theorem k107 : ckB Tryz.prog 6 107 = some K107 := by kernel_rfl
theorem c107 : Tryz.prog.cellsOf 107 = 15 := by kernel_rfl
def gOf (W : World) (a : Option Addr) (i : Int) (j : Nat) : Int :=
  match W.cell? (((a.getD ⟨0, 0, none⟩).add (i.toNat * 15)).add j) with
  | some (.int _ x) => x
  | _ => 0
def guOf (W : World) (a : Option Addr) (i : Int) : Bool :=
  match W.cell? (((a.getD ⟨0, 0, none⟩).add (i.toNat * 15)).add 6) with
  | some (.bool x) => x
  | _ => false
section
variable {H : Type} {enc : TypeId × Value → H} {W : World} {spare : Nat → Bool} {held : Bool}
theorem adv_ok {a : Option Addr} {len : Nat} (he : ∀ i, i < len → ∃ ad cs fuel x, a = some ad ∧ W.cells? 0 (ad.add (i * Tryz.prog.cellsOf 107)) (Tryz.prog.cellsOf 107) = some cs ∧ DataW.trod enc Tryz.prog W 0 spare held fuel 107 cs = some x) :
    okVs W [advV a len (gOf W a) (guOf W a)] [] := by
  intro V hV ix hd v j hj
  simp only [List.mem_singleton] at hV
  subst hV
  obtain ⟨hd0, hd1⟩ : 0 ≤ ix ∧ ix < (len : Int) := hd
  obtain ⟨ad, cs, fuel, x, rfl, h1, h2⟩ := he ix.toNat (by omega)
  rw [c107] at h1
  obtain ⟨_, h3, h4⟩ := World.cells?_some h1
  have h := trod_ck 6 107 K107 k107 fuel cs x h2
  refine ⟨?_, by simp⟩
  obtain _ | ⟨v0, cs⟩ := cs
  · exact h.elim
  obtain ⟨⟨y0, rfl⟩, h⟩ := h
  obtain _ | ⟨v1, cs⟩ := cs
  · exact h.elim
  obtain ⟨⟨y1, rfl⟩, h⟩ := h
  obtain _ | ⟨v2, cs⟩ := cs
  · exact h.elim
  obtain ⟨⟨y2, rfl⟩, h⟩ := h
  obtain _ | ⟨v3, cs⟩ := cs
  · exact h.elim
  obtain ⟨⟨y3, rfl⟩, h⟩ := h
  obtain _ | ⟨v4, cs⟩ := cs
  · exact h.elim
  obtain ⟨⟨y4, rfl⟩, h⟩ := h
  obtain _ | ⟨v5, cs⟩ := cs
  · exact h.elim
  obtain ⟨⟨y5, rfl⟩, h⟩ := h
  obtain _ | ⟨v6, cs⟩ := cs
  · exact h.elim
  obtain ⟨⟨y6, rfl⟩, h⟩ := h
  obtain _ | ⟨v7, cs⟩ := cs
  · exact h.elim
  obtain ⟨⟨y7, rfl⟩, h⟩ := h
  obtain _ | ⟨v8, cs⟩ := cs
  · exact h.elim
  obtain ⟨⟨y8, rfl⟩, h⟩ := h
  obtain _ | ⟨v9, cs⟩ := cs
  · exact h.elim
  obtain ⟨⟨y9, rfl⟩, h⟩ := h
  obtain _ | ⟨v10, cs⟩ := cs
  · exact h.elim
  obtain ⟨⟨y10, rfl⟩, h⟩ := h
  obtain _ | ⟨v11, cs⟩ := cs
  · exact h.elim
  obtain ⟨⟨y11, rfl⟩, h⟩ := h
  obtain _ | ⟨v12, cs⟩ := cs
  · exact h.elim
  obtain ⟨⟨y12, rfl⟩, h⟩ := h
  obtain _ | ⟨v13, cs⟩ := cs
  · exact h.elim
  obtain ⟨⟨y13, rfl⟩, h⟩ := h
  obtain _ | ⟨v14, cs⟩ := cs
  · exact h.elim
  obtain ⟨⟨y14, rfl⟩, h⟩ := h
  have hcs : cs = [] := by
    cases cs with
    | nil => rfl
    | cons v cs => exact h.elim
  subst hcs
  have key : ∀ j, j < 15 → W.cell? ((((some ad : Option Addr).getD ⟨0, 0, none⟩).add (ix.toNat * 15)).add j) = [Value.int .i64 y0, Value.int .i64 y1, Value.int .u64 y2, Value.int .i64 y3, Value.int .u32 y4, Value.int .i64 y5, Value.bool y6, Value.int .u64 y7, Value.int .u64 y8, Value.int .u64 y9, Value.int .u64 y10, Value.int .u64 y11, Value.int .u64 y12, Value.int .u64 y13, Value.int .u64 y14][j]? := h4
  obtain _ | j := j
  · injection hj with hj; subst hj
    have hc : W.cell? ((((some ad : Option Addr).getD ⟨0, 0, none⟩).add (ix.toNat * 15)).add 0) = some (Value.int .i64 y0) := key 0 (by omega)
    show W.cell? ((((some ad : Option Addr).getD ⟨0, 0, none⟩).add (ix.toNat * 15)).add 0) = some (Value.int .i64 (gOf W (some ad) ix 0))
    simp only [gOf, hc]
  obtain _ | j := j
  · injection hj with hj; subst hj
    have hc : W.cell? ((((some ad : Option Addr).getD ⟨0, 0, none⟩).add (ix.toNat * 15)).add 1) = some (Value.int .i64 y1) := key 1 (by omega)
    show W.cell? ((((some ad : Option Addr).getD ⟨0, 0, none⟩).add (ix.toNat * 15)).add 1) = some (Value.int .i64 (gOf W (some ad) ix 1))
    simp only [gOf, hc]
  obtain _ | j := j
  · injection hj with hj; subst hj
    have hc : W.cell? ((((some ad : Option Addr).getD ⟨0, 0, none⟩).add (ix.toNat * 15)).add 2) = some (Value.int .u64 y2) := key 2 (by omega)
    show W.cell? ((((some ad : Option Addr).getD ⟨0, 0, none⟩).add (ix.toNat * 15)).add 2) = some (Value.int .u64 (gOf W (some ad) ix 2))
    simp only [gOf, hc]
  obtain _ | j := j
  · injection hj with hj; subst hj
    have hc : W.cell? ((((some ad : Option Addr).getD ⟨0, 0, none⟩).add (ix.toNat * 15)).add 3) = some (Value.int .i64 y3) := key 3 (by omega)
    show W.cell? ((((some ad : Option Addr).getD ⟨0, 0, none⟩).add (ix.toNat * 15)).add 3) = some (Value.int .i64 (gOf W (some ad) ix 3))
    simp only [gOf, hc]
  obtain _ | j := j
  · injection hj with hj; subst hj
    have hc : W.cell? ((((some ad : Option Addr).getD ⟨0, 0, none⟩).add (ix.toNat * 15)).add 4) = some (Value.int .u32 y4) := key 4 (by omega)
    show W.cell? ((((some ad : Option Addr).getD ⟨0, 0, none⟩).add (ix.toNat * 15)).add 4) = some (Value.int .u32 (gOf W (some ad) ix 4))
    simp only [gOf, hc]
  obtain _ | j := j
  · injection hj with hj; subst hj
    have hc : W.cell? ((((some ad : Option Addr).getD ⟨0, 0, none⟩).add (ix.toNat * 15)).add 5) = some (Value.int .i64 y5) := key 5 (by omega)
    show W.cell? ((((some ad : Option Addr).getD ⟨0, 0, none⟩).add (ix.toNat * 15)).add 5) = some (Value.int .i64 (gOf W (some ad) ix 5))
    simp only [gOf, hc]
  obtain _ | j := j
  · injection hj with hj; subst hj
    have hc : W.cell? ((((some ad : Option Addr).getD ⟨0, 0, none⟩).add (ix.toNat * 15)).add 6) = some (Value.bool y6) := key 6 (by omega)
    show W.cell? ((((some ad : Option Addr).getD ⟨0, 0, none⟩).add (ix.toNat * 15)).add 6) = some (Value.bool (guOf W (some ad) ix))
    simp only [guOf, hc]
  obtain _ | j := j
  · injection hj with hj; subst hj
    have hc : W.cell? ((((some ad : Option Addr).getD ⟨0, 0, none⟩).add (ix.toNat * 15)).add 7) = some (Value.int .u64 y7) := key 7 (by omega)
    show W.cell? ((((some ad : Option Addr).getD ⟨0, 0, none⟩).add (ix.toNat * 15)).add 7) = some (Value.int .u64 (gOf W (some ad) ix 7))
    simp only [gOf, hc]
  obtain _ | j := j
  · injection hj with hj; subst hj
    have hc : W.cell? ((((some ad : Option Addr).getD ⟨0, 0, none⟩).add (ix.toNat * 15)).add 8) = some (Value.int .u64 y8) := key 8 (by omega)
    show W.cell? ((((some ad : Option Addr).getD ⟨0, 0, none⟩).add (ix.toNat * 15)).add 8) = some (Value.int .u64 (gOf W (some ad) ix 8))
    simp only [gOf, hc]
  obtain _ | j := j
  · injection hj with hj; subst hj
    have hc : W.cell? ((((some ad : Option Addr).getD ⟨0, 0, none⟩).add (ix.toNat * 15)).add 9) = some (Value.int .u64 y9) := key 9 (by omega)
    show W.cell? ((((some ad : Option Addr).getD ⟨0, 0, none⟩).add (ix.toNat * 15)).add 9) = some (Value.int .u64 (gOf W (some ad) ix 9))
    simp only [gOf, hc]
  obtain _ | j := j
  · injection hj with hj; subst hj
    have hc : W.cell? ((((some ad : Option Addr).getD ⟨0, 0, none⟩).add (ix.toNat * 15)).add 10) = some (Value.int .u64 y10) := key 10 (by omega)
    show W.cell? ((((some ad : Option Addr).getD ⟨0, 0, none⟩).add (ix.toNat * 15)).add 10) = some (Value.int .u64 (gOf W (some ad) ix 10))
    simp only [gOf, hc]
  obtain _ | j := j
  · injection hj with hj; subst hj
    have hc : W.cell? ((((some ad : Option Addr).getD ⟨0, 0, none⟩).add (ix.toNat * 15)).add 11) = some (Value.int .u64 y11) := key 11 (by omega)
    show W.cell? ((((some ad : Option Addr).getD ⟨0, 0, none⟩).add (ix.toNat * 15)).add 11) = some (Value.int .u64 (gOf W (some ad) ix 11))
    simp only [gOf, hc]
  obtain _ | j := j
  · injection hj with hj; subst hj
    have hc : W.cell? ((((some ad : Option Addr).getD ⟨0, 0, none⟩).add (ix.toNat * 15)).add 12) = some (Value.int .u64 y12) := key 12 (by omega)
    show W.cell? ((((some ad : Option Addr).getD ⟨0, 0, none⟩).add (ix.toNat * 15)).add 12) = some (Value.int .u64 (gOf W (some ad) ix 12))
    simp only [gOf, hc]
  obtain _ | j := j
  · injection hj with hj; subst hj
    have hc : W.cell? ((((some ad : Option Addr).getD ⟨0, 0, none⟩).add (ix.toNat * 15)).add 13) = some (Value.int .u64 y13) := key 13 (by omega)
    show W.cell? ((((some ad : Option Addr).getD ⟨0, 0, none⟩).add (ix.toNat * 15)).add 13) = some (Value.int .u64 (gOf W (some ad) ix 13))
    simp only [gOf, hc]
  obtain _ | j := j
  · injection hj with hj; subst hj
    have hc : W.cell? ((((some ad : Option Addr).getD ⟨0, 0, none⟩).add (ix.toNat * 15)).add 14) = some (Value.int .u64 y14) := key 14 (by omega)
    show W.cell? ((((some ad : Option Addr).getD ⟨0, 0, none⟩).add (ix.toNat * 15)).add 14) = some (Value.int .u64 (gOf W (some ad) ix 14))
    simp only [gOf, hc]
  · cases hj

theorem act_shape {cs : List Value} (h : allCK enc Tryz.prog W 0 spare held K46 cs) :
    ∃ n A l c up s g gu, cs = SV.dens (actC n A l c up s) ∧ (l 3 : Int) ≤ 9223372036854775807 ∧ (0 < l 3 → (A 3).isSome = true) ∧ okVs W [advV (A 3) (l 3) g gu] [] := by
  obtain _ | ⟨v0, cs⟩ := cs
  · exact h.elim
  obtain ⟨⟨x0, rfl⟩, h⟩ := h
  obtain _ | ⟨v1, cs⟩ := cs
  · exact h.elim
  obtain ⟨⟨x1, rfl⟩, h⟩ := h
  obtain _ | ⟨v2, cs⟩ := cs
  · exact h.elim
  obtain ⟨⟨x2, rfl⟩, h⟩ := h
  obtain _ | ⟨v3, cs⟩ := cs
  · exact h.elim
  obtain ⟨⟨x3, rfl⟩, h⟩ := h
  obtain _ | ⟨v4, cs⟩ := cs
  · exact h.elim
  obtain ⟨⟨x4, rfl⟩, h⟩ := h
  obtain _ | ⟨v5, cs⟩ := cs
  · exact h.elim
  obtain ⟨⟨x5, rfl⟩, h⟩ := h
  obtain _ | ⟨v6, cs⟩ := cs
  · exact h.elim
  obtain ⟨⟨x6, rfl⟩, h⟩ := h
  obtain _ | ⟨v7, cs⟩ := cs
  · exact h.elim
  obtain ⟨⟨x7, rfl⟩, h⟩ := h
  obtain _ | ⟨v8, cs⟩ := cs
  · exact h.elim
  obtain ⟨⟨x8, rfl⟩, h⟩ := h
  obtain _ | ⟨v9, cs⟩ := cs
  · exact h.elim
  obtain ⟨⟨x9, rfl⟩, h⟩ := h
  obtain _ | ⟨v10, cs⟩ := cs
  · exact h.elim
  obtain ⟨⟨x10, rfl⟩, h⟩ := h
  obtain _ | ⟨v11, cs⟩ := cs
  · exact h.elim
  obtain ⟨⟨x11, rfl⟩, h⟩ := h
  obtain _ | ⟨v12, cs⟩ := cs
  · exact h.elim
  obtain ⟨⟨x12, rfl⟩, h⟩ := h
  obtain _ | ⟨v13, cs⟩ := cs
  · exact h.elim
  obtain ⟨⟨x13, rfl⟩, h⟩ := h
  obtain _ | ⟨v14, cs⟩ := cs
  · exact h.elim
  obtain ⟨⟨x14, rfl⟩, h⟩ := h
  obtain _ | ⟨v15, cs⟩ := cs
  · exact h.elim
  obtain ⟨⟨x15, rfl⟩, h⟩ := h
  obtain _ | ⟨v16, cs⟩ := cs
  · exact h.elim
  obtain ⟨⟨x16, rfl⟩, h⟩ := h
  obtain _ | ⟨v17, cs⟩ := cs
  · exact h.elim
  obtain ⟨⟨x17, rfl⟩, h⟩ := h
  obtain _ | ⟨v18, cs⟩ := cs
  · exact h.elim
  obtain ⟨⟨a18, l18, c18, rfl, m18, e18⟩, h⟩ := h
  obtain _ | ⟨v19, cs⟩ := cs
  · exact h.elim
  obtain ⟨⟨a19, l19, c19, rfl, m19, e19⟩, h⟩ := h
  obtain _ | ⟨v20, cs⟩ := cs
  · exact h.elim
  obtain ⟨⟨x20, rfl⟩, h⟩ := h
  obtain _ | ⟨v21, cs⟩ := cs
  · exact h.elim
  obtain ⟨⟨x21, rfl⟩, h⟩ := h
  obtain _ | ⟨v22, cs⟩ := cs
  · exact h.elim
  obtain ⟨⟨x22, rfl⟩, h⟩ := h
  obtain _ | ⟨v23, cs⟩ := cs
  · exact h.elim
  obtain ⟨⟨x23, rfl⟩, h⟩ := h
  obtain _ | ⟨v24, cs⟩ := cs
  · exact h.elim
  obtain ⟨⟨x24, rfl⟩, h⟩ := h
  obtain _ | ⟨v25, cs⟩ := cs
  · exact h.elim
  obtain ⟨⟨x25, rfl⟩, h⟩ := h
  obtain _ | ⟨v26, cs⟩ := cs
  · exact h.elim
  obtain ⟨⟨x26, rfl⟩, h⟩ := h
  obtain _ | ⟨v27, cs⟩ := cs
  · exact h.elim
  obtain ⟨⟨x27, rfl⟩, h⟩ := h
  obtain _ | ⟨v28, cs⟩ := cs
  · exact h.elim
  obtain ⟨⟨x28, rfl⟩, h⟩ := h
  obtain _ | ⟨v29, cs⟩ := cs
  · exact h.elim
  obtain ⟨⟨x29, rfl⟩, h⟩ := h
  obtain _ | ⟨v30, cs⟩ := cs
  · exact h.elim
  obtain ⟨⟨x30, rfl⟩, h⟩ := h
  obtain _ | ⟨v31, cs⟩ := cs
  · exact h.elim
  obtain ⟨⟨x31, rfl⟩, h⟩ := h
  obtain _ | ⟨v32, cs⟩ := cs
  · exact h.elim
  obtain ⟨⟨x32, rfl⟩, h⟩ := h
  obtain _ | ⟨v33, cs⟩ := cs
  · exact h.elim
  obtain ⟨⟨a33, l33, c33, rfl, m33, e33⟩, h⟩ := h
  obtain _ | ⟨v34, cs⟩ := cs
  · exact h.elim
  obtain ⟨⟨x34, rfl⟩, h⟩ := h
  obtain _ | ⟨v35, cs⟩ := cs
  · exact h.elim
  obtain ⟨⟨x35, rfl⟩, h⟩ := h
  obtain _ | ⟨v36, cs⟩ := cs
  · exact h.elim
  obtain ⟨⟨a36, l36, c36, rfl, m36, e36⟩, h⟩ := h
  obtain _ | ⟨v37, cs⟩ := cs
  · exact h.elim
  obtain ⟨⟨a37, l37, c37, rfl, m37, e37⟩, h⟩ := h
  obtain _ | ⟨v38, cs⟩ := cs
  · exact h.elim
  obtain ⟨⟨x38, rfl⟩, h⟩ := h
  obtain _ | ⟨v39, cs⟩ := cs
  · exact h.elim
  obtain ⟨⟨x39, rfl⟩, h⟩ := h
  obtain _ | ⟨v40, cs⟩ := cs
  · exact h.elim
  obtain ⟨⟨x40, rfl⟩, h⟩ := h
  have hcs : cs = [] := by
    cases cs with
    | nil => rfl
    | cons v cs => exact h.elim
  subst hcs
  refine ⟨fun j => [x0, x1, x2, x3, x4, x5, x6, x7, x8, x9, x10, x11, x12, x13, x14, x15, x16, x17, 0, 0, x20, x21, x22, x23, x24, x25, x26, x27, x28, x29, x30, x31, x32, 0, 0, x35, 0, 0, x38, x39, 0].getD j 0, fun j => [a18, a19, a33, a36, a37].getD j none, fun j => [l18, l19, l33, l36, l37].getD j 0, fun j => [c18, c19, c33, c36, c37].getD j 0, x34, x40, gOf W a36, guOf W a36, rfl, ?_, ?_, adv_ok e36⟩
  · have : l36 ≤ 9223372036854775807 := m36
    show (l36 : Int) ≤ _
    omega
  · intro hl
    obtain ⟨ad, _, _, _, h1, _⟩ := e36 0 hl
    show a36.isSome = true
    rw [h1]; rfl
end
end Go.Vd.Tz
