/- A ring as it lies in memory: plain facts, no program in sight. -/
import Derived.WalkKit
import Derived.Deep.Draws
import Derived.Lib.Hide
import Derived.Test.YtbmagajagmchoaaKit
namespace Go.Proofs.Ytbmagajagmchoaa.Ring
open Go.RowKit Go.Proofs.Yk

theorem cs_ne (w : World) {b b' o o' : Nat} {v : Value} (h : b ≠ b') : (w.setCell ⟨b, o, none⟩ v).cell? ⟨b', o', none⟩ = w.cell? ⟨b', o', none⟩ :=
  World.cell?_setCell_other w _ _ v (fun e => h (by injection e))

/-- The ring of size 'size' at block g, its row at block b, holds the samples t + 1, val t of lo <= t < lo + n, t at the place t % size. -/
structure RingOk (tr te : Nat) (val : Nat → Value) (w : World) (g b size lo n : Nat) : Prop where
  hg : Blk w g tr #[.slice (some ⟨b, 0, none⟩) size size, .int .i64 ((lo % size : Nat) : Int), .int .i64 (n : Int)]
  hb : ∃ cs : Array Value, Blk w b te cs ∧ cs.size = size * 2 ∧ ∀ t, lo ≤ t → t < lo + n → cs[t % size * 2]? = some (.int .i64 ((t + 1 : Nat) : Int)) ∧ cs[t % size * 2 + 1]? = some (val t)
  s1 : 1 ≤ size
  s2 : size ≤ 32
  room : n ≤ size
  ne : g ≠ b

namespace RingOk
variable {tr te : Nat} {val : Nat → Value} {w w' : World} {g b size lo n : Nat}
theorem first_lt (h : RingOk tr te val w g b size lo n) : lo % size < size := Nat.mod_lt _ h.s1
theorem c0 (h : RingOk tr te val w g b size lo n) : w.cell? ⟨g, 0, none⟩ = some (.slice (some ⟨b, 0, none⟩) size size) := h.hg.cell 0
theorem c1 (h : RingOk tr te val w g b size lo n) : w.cell? ⟨g, 1, none⟩ = some (.int .i64 ((lo % size : Nat) : Int)) := h.hg.cell 1
theorem c2 (h : RingOk tr te val w g b size lo n) : w.cell? ⟨g, 2, none⟩ = some (.int .i64 (n : Int)) := h.hg.cell 2
theorem fg (h : RingOk tr te val w g b size lo n) (i : Nat) : w.frozen? ⟨g, i, none⟩ = false := h.hg.frozen i
theorem fb (h : RingOk tr te val w g b size lo n) (i : Nat) : w.frozen? ⟨b, i, none⟩ = false := by
  obtain ⟨cs, hc, _⟩ := h.hb
  exact hc.frozen i
theorem old (h : RingOk tr te val w g b size lo n) (k : Nat) (hk : k < size) : ∃ u0 u1, w.cell? ⟨b, k * 2, none⟩ = some u0 ∧ w.cell? ⟨b, k * 2 + 1, none⟩ = some u1 := by
  obtain ⟨cs, hc, hs, _⟩ := h.hb
  exact ⟨cs[k * 2]'(by omega), cs[k * 2 + 1]'(by omega), (hc.cell _).trans (Array.getElem?_eq_getElem _), (hc.cell _).trans (Array.getElem?_eq_getElem _)⟩
theorem elem (h : RingOk tr te val w g b size lo n) (t : Nat) (h1 : lo ≤ t) (h2 : t < lo + n) : w.cell? ⟨b, t % size * 2, none⟩ = some (.int .i64 ((t + 1 : Nat) : Int)) ∧ w.cell? ⟨b, t % size * 2 + 1, none⟩ = some (val t) := by
  obtain ⟨cs, hc, _, he⟩ := h.hb
  exact ⟨(hc.cell _).trans (he t h1 h2).1, (hc.cell _).trans (he t h1 h2).2⟩
theorem drewN (h : RingOk tr te val w g b size lo n) (q : Nat) : RingOk tr te val (w.drewN q) g b size lo n := ⟨h.hg, h.hb, h.s1, h.s2, h.room, h.ne⟩
theorem mod {S : Nat → Prop} (h : RingOk tr te val w g b size lo n) (hm : Mod S w w') (hg : ¬ S g) (hb : ¬ S b) : RingOk tr te val w' g b size lo n := by
  obtain ⟨cs, hc, hs⟩ := h.hb
  exact ⟨h.hg.mod hm hg, ⟨cs, hc.mod hm hb, hs⟩, h.s1, h.s2, h.room, h.ne⟩
theorem grown {row : Option Nat} (h : RingOk tr te val w g b size lo n) (hg : w.grownBy w' row) (hne : ∀ r, row = some r → r ≠ g ∧ r ≠ b) : RingOk tr te val w' g b size lo n := by
  obtain ⟨cs, hc, hs⟩ := h.hb
  exact ⟨h.hg.grown hg (fun e => (hne g e.symm).1 rfl), ⟨cs, hc.grown hg (fun e => (hne b e.symm).2 rfl), hs⟩, h.s1, h.s2, h.room, h.ne⟩
theorem glt (h : RingOk tr te val w g b size lo n) : g < w.heap.size := h.hg.lt
theorem blt (h : RingOk tr te val w g b size lo n) : b < w.heap.size := by
  obtain ⟨cs, hc, _⟩ := h.hb
  exact hc.lt
theorem mod_ne {size a t : Nat} (h1 : a < t) (h2 : t < a + size) : t % size ≠ a % size := by
  intro e
  have := Nat.sub_mod_eq_zero_of_mod_eq e
  have hd : size ∣ t - a := Nat.dvd_of_mod_eq_zero this
  have := Nat.le_of_dvd (by omega) hd
  omega
/-- The eldest one goes. -/
theorem dropped (h : RingOk tr te val w g b size lo (n + 1)) (z : Value) :
    RingOk tr te val ((((w.setCell ⟨b, lo % size * 2, none⟩ (.int .i64 0)).setCell ⟨b, lo % size * 2 + 1, none⟩ z).setCell ⟨g, 1, none⟩ (.int .i64 ((((lo % size : Nat) : Int) + 1) % size))).setCell ⟨g, 2, none⟩ (.int .i64 n)) g b size (lo + 1) n := by
  obtain ⟨cs, hc, hs, he⟩ := h.hb
  have hgb := h.ne
  have hroom := h.room
  have hbg : b ≠ g := fun e => hgb e.symm
  refine ⟨?_, ⟨(cs.setIfInBounds (lo % size * 2) (.int .i64 0)).setIfInBounds (lo % size * 2 + 1) z, ?_, ?_, ?_⟩, h.s1, h.s2, by omega, hgb⟩
  · have := ((((h.hg.far (p := ⟨b, lo % size * 2, none⟩) hgb (.int .i64 0)).far (p := ⟨b, lo % size * 2 + 1, none⟩) hgb z).set_ 1 (.int .i64 ((((lo % size : Nat) : Int) + 1) % size))).set_ 2 (.int .i64 n))
    have e : ((((lo % size : Nat) : Int) + 1) % size) = (((lo + 1) % size : Nat) : Int) := by push_cast; exact Int.emod_add_emod _ _ _
    rw [e] at this ⊢
    exact this
  · exact ((((hc.set_ _ _).set_ _ _).far (p := ⟨g, 1, none⟩) hbg _).far (p := ⟨g, 2, none⟩) hbg _)
  · simpa using hs
  · intro t h1 h2
    have hne := mod_ne (size := size) (a := lo) (t := t) (by omega) (by omega)
    have h3 := he t (by omega) (by omega)
    rw [Array.getElem?_setIfInBounds_ne (by omega), Array.getElem?_setIfInBounds_ne (by omega), Array.getElem?_setIfInBounds_ne (by omega), Array.getElem?_setIfInBounds_ne (by omega)]
    exact h3
/-- One more. -/
theorem put (h : RingOk tr te val w g b size lo n) (hn : n < size) :
    RingOk tr te val (((w.setCell ⟨b, (lo + n) % size * 2, none⟩ (.int .i64 ((lo + n + 1 : Nat) : Int))).setCell ⟨b, (lo + n) % size * 2 + 1, none⟩ (val (lo + n))).setCell ⟨g, 2, none⟩ (.int .i64 ((n : Int) + 1))) g b size lo (n + 1) := by
  obtain ⟨cs, hc, hs, he⟩ := h.hb
  have hgb := h.ne
  have hbg : b ≠ g := fun e => hgb e.symm
  have hlt : (lo + n) % size < size := Nat.mod_lt _ h.s1
  refine ⟨?_, ⟨(cs.setIfInBounds ((lo + n) % size * 2) (.int .i64 ((lo + n + 1 : Nat) : Int))).setIfInBounds ((lo + n) % size * 2 + 1) (val (lo + n)), ?_, ?_, ?_⟩, h.s1, h.s2, by omega, hgb⟩
  · exact (((h.hg.far (p := ⟨b, _, none⟩) hgb _).far (p := ⟨b, _, none⟩) hgb _).set_ 2 (.int .i64 ((n : Int) + 1)))
  · exact (((hc.set_ _ _).set_ _ _).far (p := ⟨g, 2, none⟩) hbg _)
  · simpa using hs
  · intro t h1 h2
    by_cases ht : t = lo + n
    · subst ht
      refine ⟨?_, ?_⟩
      · rw [Array.getElem?_setIfInBounds_ne (by omega), Array.getElem?_setIfInBounds_self_of_lt (by omega)]
      · rw [Array.getElem?_setIfInBounds_self_of_lt (by simp; omega)]
    · have hne := mod_ne (size := size) (a := t) (t := lo + n) (by omega) (by omega)
      have h3 := he t h1 (by omega)
      rw [Array.getElem?_setIfInBounds_ne (by omega), Array.getElem?_setIfInBounds_ne (by omega), Array.getElem?_setIfInBounds_ne (by omega), Array.getElem?_setIfInBounds_ne (by omega)]
      exact h3
end RingOk
end Go.Proofs.Ytbmagajagmchoaa.Ring
