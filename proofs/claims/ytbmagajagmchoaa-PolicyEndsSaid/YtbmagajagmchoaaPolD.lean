/- policy.Keep, by its contract. -/
import Derived.Test.YtbmagajagmchoaaPolC
namespace Go.Proofs.Ytbmagajagmchoaa.PolD
open Go.RowKit Go.Proofs.Yk Go.Proofs.Yq Go.Proofs.Ytbmagajagmchoaa.Pol Go.Proofs.Ytbmagajagmchoaa.PolA Go.Proofs.Ytbmagajagmchoaa.PolB Go.Proofs.Ytbmagajagmchoaa.PolC
set_option linter.unusedVariables false
set_option linter.unusedSimpArgs false
attribute [local go_sem] Instr.field part asAgg

theorem own_mono {w : World} {base base' : Nat} {e : TypeId} {size : Nat} {v : Value} {n : Nat} {xs : List Value} (h : w.ownsRow base e size v n xs) (hb : base' ≤ base) : w.ownsRow base' e size v n xs := by
  obtain ⟨hl, h0 | ⟨g, cap, cur, hv, hg, r⟩⟩ := h
  · exact ⟨hl, .inl h0⟩
  · exact ⟨hl, .inr ⟨g, cap, cur, hv, by omega, r⟩⟩
/-- The i-th of the last ones that are kept. -/
def lastD (D : Nat → Nat → Int) (now : Int) (n lo : Nat) (i j : Nat) : Int := D ((kept D now n).getD (lo + i) 0) j

theorem last_sr {w : World} {g cap n lo : Nat} {D : Nat → Nat → Int} {now : Int} {cur : Array Value} (hb : Blk w g 50 cur) (hs : cur.size = cap * 3)
    (h : ∀ m x c, (kept D now n)[m]? = some x → c < 3 → cur[m * 3 + c]? = some (.int .i64 (D x c))) (hr : ∀ i, i < n → -9223372036854775808 ≤ D i 0 ∧ D i 0 ≤ 9223372036854775807) (k : Nat) (hk : lo + k ≤ (kept D now n).length) :
    SR w ⟨g, lo * 3, none⟩ k (lastD D now n lo) := by
  have hx : ∀ i, i < k → (kept D now n)[lo + i]? = some ((kept D now n).getD (lo + i) 0) := fun i hi => by
    rw [List.getElem?_eq_getElem (by omega), List.getD_eq_getElem?_getD, List.getElem?_eq_getElem (by omega)]; rfl
  refine ⟨fun i j hi hj => ?_, fun i hi => hr _ (kept_lt D now n _ _ (hx i hi)), hb.lt⟩
  rw [Addr.add_add, add_at, hb.cell]
  rw [show lo * 3 + (i * 3 + j) = (lo + i) * 3 + j by omega]
  exact h _ _ _ (hx i hi) hj

set_option maxRecDepth 100000 in
set_option maxHeartbeats 1000000 in
theorem keep20 (A : Option Addr) (n cap : Nat) (D : Nat → Nat → Int) (now : Int) (w : World) (hn : n ≤ 60) (hrow : ∀ a, A = some a → 0 < n → SR w a n D) (hA : A = none → n = 0 ∧ cap = 0) (hrng : ∀ i, i < n → -9223372036854775808 ≤ D i 0 ∧ D i 0 ≤ 9223372036854775807)
    (h1 : -9223372036854775808 ≤ now) (h2 : now ≤ 9223372036854775807) :
    Calls Try.prog 20 #[.slice A n cap, .int .i64 now] w fun e w' => ∃ v, e = .returned v ∧ Below w.heap.size w w' ∧
      w'.ownsRow w.heap.size 50 3 v ((kept D now n).length - ((kept D now n).length - 32)) (flat (lastD D now n ((kept D now n).length - 32)) ((kept D now n).length - ((kept D now n).length - 32))) := by
  have hkl := kept_le D now n
  obtain ⟨K, hK⟩ : ∃ K, K = (kept D now n).length := ⟨_, rfl⟩
  rw [← hK] at hkl ⊢
  have HK := Lib.hid hK
  clear hK
  obtain ⟨lo, hlo⟩ : ∃ lo, lo = K - 32 := ⟨_, rfl⟩
  rw [← hlo]
  have HLO := Lib.hid hlo
  clear hlo
  have hrow' : ∀ a, A = some a → 0 < n → SR (w.alloc (.cells #[.int .i64 now] 2)) a n D := fun a ha hn => by
    have h := hrow a ha hn
    have hbl : ∀ (a : Addr) m, (a.add m).block = a.block := fun a m => by unfold Addr.add; split <;> rfl
    exact ⟨fun i j hi hj => by rw [World.cell?_alloc_lt w _ _ (by rw [hbl, hbl]; exact h.lt)]; exact h.cell i j hi hj, h.rng, by simp; exact Nat.lt_succ_of_lt h.lt⟩
  have HR := Lib.hid hrow'
  clear hrow hrow'
  go_enter Try.func20, Try.ntmps20
  go_wp2_with fail
  refine (clone46 A n cap D _ hn HR.out hA).mono ?_
  rintro e w1 ⟨v1, rfl, hown, hm1⟩
  have hb1 : Blk w1 w.heap.size 2 #[.int .i64 now] := (Blk.new w 2 #[.int .i64 now]).mod hm1 (fun f => f)
  have hbx : w1.cell? ⟨w.heap.size, 0, none⟩ = some (.int .i64 now) := hb1.cell 0
  have HBX := Lib.hid hbx
  have HB1 := Lib.hid (((Mod.refl (fun _ => False) w).alloc (.cells #[.int .i64 now] 2)).trans hm1)
  clear hb1 hbx hm1
  obtain ⟨hl, ⟨rfl, rfl⟩ | ⟨g, cap1, cur, rfl, hg, hh, hnc, hc, hs, ht⟩⟩ := hown
  · have hK0 : K = 0 := by omega
    subst hK0
    obtain rfl : lo = 0 := by have := HLO.out; omega
    clear hl
    have hsz := HB1.out.size
    go_wp2_with fail
    refine (delete45 none (w.heap.size + 1) 0 0 #[] D now w.heap.size w1 (fun h => by omega) (fun h => by omega) (by omega) (by omega) HBX.out h1 h2).mono ?_
    rintro e w2 ⟨rfl, hm2, _⟩
    rw [← HK.out]
    have HM2 := Lib.hid hm2
    clear hm2
    go_wp2_with fail
    refine (clone46 none 0 0 (lastD D now 0 0) _ (by omega) (fun a h => by simp at h) (fun _ => ⟨rfl, rfl⟩)).mono ?_
    rintro e w3 ⟨v3, rfl, hown3, hm3⟩
    have HM3 := Lib.hid hm3
    have HO3 := Lib.hid hown3
    clear hm3 hown3
    go_wp2
    go_ret
    have hsz2 := HM2.out.size
    have hz1 : (w.alloc (.cells #[.int .i64 now] 2)).heap.size = w.heap.size + 1 := by simp
    refine ⟨_, rfl, (HB1.out.below (Nat.le_refl _) (fun _ _ f => f)).trans ((HM2.out.below (B := w.heap.size) (by omega) (fun k hk e => by omega)).trans (HM3.out.below (by omega) (fun _ _ f => f))), own_mono HO3.out (by omega)⟩
  · obtain ⟨bx, hbxe⟩ : ∃ bx, bx = w.heap.size := ⟨_, rfl⟩
    have HBXE := Lib.hid hbxe
    have hz1 : (w.alloc (.cells #[.int .i64 now] 2)).heap.size = w.heap.size + 1 := by simp
    have hne : bx ≠ g := by omega
    have hgw : w.heap.size < g := by omega
    have HGW := Lib.hid hgw
    clear hgw
    have hB : Blk w1 g 50 cur := hh
    have hrb : RB w1 g cap1 n cur D := ⟨hB, hs, hnc, fun i j hi hj => by
      have h := flat_at D n i j hi hj
      rw [← ht, List.getElem?_take_of_lt (by omega)] at h
      simpa using h, hrng⟩
    have hsz := HB1.out.size
    rw [← hbxe] at HBX
    have HRB := Lib.hid hrb
    have HHG := Lib.hid hg
    rw [← hbxe]
    clear hrb hB hh hs ht hl hg hA HR hbxe hz1
    go_wp2_with fail
    refine (delete45 (some ⟨g, 0, none⟩) g n cap1 cur D now bx w1 (fun h => rfl) (fun h => HRB.out) (by omega) hne HBX.out h1 h2).mono ?_
    rintro e w2 ⟨rfl, hm2, hrow2⟩
    rw [← HK.out]
    have HM2 := Lib.hid hm2
    have HR2 := Lib.hid hrow2
    have HRNG := Lib.hid hrng
    clear hm2 hrow2 hrng
    have hsz2 := HM2.out.size
    have hfin : ∀ w3, Mod (fun _ => False) w2 w3 → Below w.heap.size w w3 := fun w3 hm3 => (HB1.out.below (Nat.le_refl _) (fun _ _ f => f)).trans ((HM2.out.below (B := w.heap.size) (by omega) (fun k hk e => by have := HGW.out; omega)).trans (hm3.below (by omega) (fun _ _ f => f)))
    have HFIN := Lib.hid hfin
    clear hfin
    by_cases hK32 : 32 < K
    · obtain ⟨d, hd⟩ : ∃ d, K = d + 32 := ⟨K - 32, by omega⟩
      obtain rfl : lo = d := by have := HLO.out; omega
      subst hd
      have hn0 : 0 < n := by omega
      obtain ⟨cur2, hB2, hs2, hat2⟩ := HR2.out hn0
      have hsr := last_sr (lo := lo) hB2 hs2 hat2 HRNG.out 32 (by rw [← HK.out]; omega)
      have HSR := Lib.hid hsr
      clear hB2 hs2 hat2 hsr
      have hcp := HRB.out.cap
      go_wp2_with fail
      refine (clone46 (some ⟨g, lo * 3, none⟩) 32 (cap1 - lo) (lastD D now n lo) _ (by omega) (fun a h _ => by injection h with h; subst h; exact HSR.out) (fun h => by simp at h)).mono ?_
      rintro e w3 ⟨v3, rfl, hown3, hm3⟩
      have HM3 := Lib.hid hm3
      have HO3 := Lib.hid hown3
      clear hm3 hown3
      go_wp2
      go_ret
      refine ⟨_, rfl, HFIN.out _ HM3.out, ?_⟩
      rw [show lo + 32 - lo = 32 by omega]
      exact own_mono HO3.out (by omega)
    · obtain rfl : lo = 0 := by have := HLO.out; omega
      go_wp2_with fail
      refine (clone46 (some ⟨g, 0, none⟩) K cap1 (lastD D now n 0) _ (by omega) (fun a h hk => by
        injection h with h
        subst h
        obtain ⟨cur2, hB2, hs2, hat2⟩ := HR2.out (by omega)
        exact last_sr (lo := 0) hB2 hs2 hat2 HRNG.out K (by rw [← HK.out]; omega)) (fun h => by simp at h)).mono ?_
      rintro e w3 ⟨v3, rfl, hown3, hm3⟩
      have HM3 := Lib.hid hm3
      have HO3 := Lib.hid hown3
      clear hm3 hown3
      go_wp2
      go_ret
      refine ⟨_, rfl, HFIN.out _ HM3.out, ?_⟩
      exact own_mono HO3.out (by omega)
end Go.Proofs.Ytbmagajagmchoaa.PolD
