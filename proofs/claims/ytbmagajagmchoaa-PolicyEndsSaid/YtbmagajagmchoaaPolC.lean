/- policy.Keep and the functions of slices that it reaches, by their contracts. -/
import Derived.Test.YtbmagajagmchoaaPolB
import Derived.Deep.WholeRow
import Derived.Laws.IdiomCopy
namespace Go.Proofs.Ytbmagajagmchoaa.PolC
open Go.RowKit Go.Proofs.Yk Go.Proofs.Yq Go.Proofs.Ytbmagajagmchoaa.Pol Go.Proofs.Ytbmagajagmchoaa.PolA Go.Proofs.Ytbmagajagmchoaa.PolB
set_option linter.unusedVariables false
set_option linter.unusedSimpArgs false
attribute [local go_sem] Instr.field part asAgg

theorem keep47 (at_ fr to_ now : Int) (bx : Nat) (w : World) (hbx : w.cell? ⟨bx, 0, none⟩ = some (.int .i64 now)) (h0 : -9223372036854775808 ≤ at_) (h1 : -9223372036854775808 ≤ now) (h2 : now ≤ 9223372036854775807) :
    Calls Try.prog 47 #[.agg #[.int .i64 at_, .int .i64 fr, .int .i64 to_], .pointer (some ⟨bx, 0, none⟩)] w fun e w' => e = .returned (.bool (!lt at_ now 1800)) ∧ w' = w.alloc (.cells #[.int .i64 at_, .int .i64 fr, .int .i64 to_] 50) := by
  have hlt : bx < w.heap.size := by
    by_cases h : bx < w.heap.size
    · exact h
    · simp [World.cell?, Array.getElem?_eq_none (Nat.le_of_not_lt h)] at hbx
  have hbx2 : (w.alloc (.cells #[.int .i64 at_, .int .i64 fr, .int .i64 to_] 50)).cell? ⟨bx, 0, none⟩ = some (.int .i64 now) := by rw [ca_lt _ _ hlt]; exact hbx
  by_cases he : now < -9223372036854775808 + 1800
  · rw [show lt at_ now 1800 = true by simp [lt]; omega]
    go_enter Try.func47, Try.ntmps47
    go_wp2_with (go_at_call 48; refine (early48 _ _ _ (by omega) (by omega)).mono ?_; rintro e w' ⟨rfl, rfl⟩)
    go_ret
    exact ⟨by first | (simp; done) | (simp; omega), rfl⟩
  · by_cases hq : at_ ≤ now - 1800
    · rw [show lt at_ now 1800 = false by simp [lt]; omega]
      go_enter Try.func47, Try.ntmps47
      go_wp2_with (go_at_call 48; refine (early48 _ _ _ (by omega) (by omega)).mono ?_; rintro e w' ⟨rfl, rfl⟩)
      go_ret
      exact ⟨by first | (simp; done) | (simp; omega), rfl⟩
    · rw [show lt at_ now 1800 = true by simp [lt]; omega]
      go_enter Try.func47, Try.ntmps47
      go_wp2_with (go_at_call 48; refine (early48 _ _ _ (by omega) (by omega)).mono ?_; rintro e w' ⟨rfl, rfl⟩)
      go_ret
      exact ⟨by first | rfl | (simp; done) | (simp; omega), rfl⟩

/-- The first one that goes, or none. -/
def first (D : Nat → Nat → Int) (now : Int) (n k : Nat) : Prop := (∀ i, i < k → lt (D i 0) now 1800 = true) ∧ (k < n → lt (D k 0) now 1800 = false)

/-- Elements lie in the block g as D says. -/
structure RB (w : World) (g cap n : Nat) (cur : Array Value) (D : Nat → Nat → Int) : Prop where
  blk : Blk w g 50 cur
  size : cur.size = cap * 3
  cap : n ≤ cap
  at_ : ∀ i j, i < n → j < 3 → cur[i * 3 + j]? = some (.int .i64 (D i j))
  rng : ∀ i, i < n → -9223372036854775808 ≤ D i 0 ∧ D i 0 ≤ 9223372036854775807

set_option maxRecDepth 100000 in
set_option maxHeartbeats 1000000 in
theorem index75 (A : Option Addr) (g n cap : Nat) (cur : Array Value) (D : Nat → Nat → Int) (now : Int) (bx : Nat) (w : World) (hA : 0 < n → A = some ⟨g, 0, none⟩) (hr : 0 < n → RB w g cap n cur D) (hn : n ≤ 60)
    (hbx : w.cell? ⟨bx, 0, none⟩ = some (.int .i64 now)) (h1 : -9223372036854775808 ≤ now) (h2 : now ≤ 9223372036854775807) :
    Calls Try.prog 75 #[.slice A n cap, .func (.func 47) #[] #[.pointer (some ⟨bx, 0, none⟩)]] w fun e w' => (∃ k, k ≤ n ∧ first D now n k ∧ e = .returned (.int .i64 (if k < n then (k : Int) else -1))) ∧ Mod (fun _ => False) w w' := by
  have hlt : bx < w.heap.size := by
    by_cases h : bx < w.heap.size
    · exact h
    · simp [World.cell?, Array.getElem?_eq_none (Nat.le_of_not_lt h)] at hbx
  go_enter Try.func75, Try.ntmps75
  go_wp2_with fail
  go_loopw [8] (fun i wr => ∃ k : Nat, k ≤ n ∧ i = .int .i64 k ∧ (∀ i, i < k → lt (D i 0) now 1800 = true) ∧ Mod (fun _ => False) w wr) (fun i _ => n - (intOf i).toNat)
  case atStart => exact ⟨0, by omega, rfl, fun i h => by omega, Mod.refl _ _⟩
  case round =>
    obtain ⟨k, hk, rfl, hall, hm⟩ := hrel
    have HM := Lib.hid hm
    have HALL := Lib.hid hall
    clear hall hm
    by_cases hkn : k < n
    · have hr' := hr (by omega)
      obtain rfl := hA (by omega)
      have HR := Lib.hid hr'
      have HB := Lib.hid (hr'.blk.mod HM.out (fun f => f))
      have hc0 : wr.cell? ⟨g, k * 3, none⟩ = some (.int .i64 (D k 0)) := (HB.out.cell _).trans (by simpa using HR.out.at_ k 0 hkn (by omega))
      have hc1 : wr.cell? ⟨g, k * 3 + 1, none⟩ = some (.int .i64 (D k 1)) := (HB.out.cell _).trans (HR.out.at_ k 1 hkn (by omega))
      have hc2 : wr.cell? ⟨g, k * 3 + 2, none⟩ = some (.int .i64 (D k 2)) := (HB.out.cell _).trans (HR.out.at_ k 2 hkn (by omega))
      have hbx' : wr.cell? ⟨bx, 0, none⟩ = some (.int .i64 now) := (HM.out.cell hlt (fun f => f)).trans hbx
      have HBX := Lib.hid hbx'
      have hcap := hr'.cap
      clear hr hA hr' hbx hbx'
      have hrn := HR.out.rng k hkn
      by_cases hl : lt (D k 0) now 1800 = true
      · go_wp2_with (go_at_call 47; refine (keep47 _ _ _ now bx _ HBX.out (by omega) (by omega) (by omega)).mono ?_; rintro e w' ⟨rfl, rfl⟩)
        exact ⟨⟨k + 1, by omega, by push_cast; rfl, fun i hi => by
          by_cases e : i < k
          · exact HALL.out i e
          · obtain rfl : i = k := by omega
            exact hl, HM.out.alloc _⟩, by simp [intOf]; omega⟩
      · have hl' : lt (D k 0) now 1800 = false := by simpa using hl
        go_wp2_with (go_at_call 47; refine (keep47 _ _ _ now bx _ HBX.out (by omega) (by omega) (by omega)).mono ?_; rintro e w' ⟨rfl, rfl⟩)
        go_ret
        exact ⟨⟨k, by omega, ⟨HALL.out, fun _ => hl'⟩, by rw [if_pos (by omega)]; rfl⟩, HM.out.alloc _⟩
    · obtain rfl : k = n := by omega
      go_wp2_with fail
      go_ret
      exact ⟨⟨k, Nat.le_refl _, ⟨HALL.out, fun h => by omega⟩, by simp⟩, HM.out⟩

theorem blk_setCells (g : Nat) (t : TypeId) : ∀ (vs : List Value) (o : Nat) (w : World) (cur : Array Value), Blk w g t cur → ∃ cur', Blk (w.setCells g o vs) g t cur' ∧ cur'.size = cur.size ∧ ∀ i, i < o → cur'[i]? = cur[i]?
  | [], o, w, cur, h => ⟨cur, h, rfl, fun _ _ => rfl⟩
  | v :: r, o, w, cur, h => by
    obtain ⟨cur', h1, h2, h3⟩ := blk_setCells g t r (o + 1) _ _ (h.set_ o v)
    exact ⟨cur', h1, by simpa using h2, fun i hi => by rw [h3 i (by omega), Array.getElem?_setIfInBounds_ne (by omega)]⟩
theorem mod_setCells (g : Nat) : ∀ (vs : List Value) (o : Nat) (w : World), Mod (fun k => k = g) w (w.setCells g o vs)
  | [], o, w => Mod.refl _ _
  | v :: r, o, w => ((Mod.refl (fun k => k = g) w).setCell (p := ⟨g, o, none⟩) (fun _ => rfl) v).trans (mod_setCells g r (o + 1) _)
theorem run_clear_blk {P : Program} (w : World) (t e ty : TypeId) (z : Value) (k : Nat) (ht : P.underlying t = some (.slice e)) (hi : (P.info? e).map (fun i => (i.zero, i.size)) = some (some z, k)) (hk : z.cells.size = k) (h1 : ∀ v ∈ z.cells, v.oneCell' = true)
    (b o n c : Nat) (hn : 0 < n) (cur : Array Value) (hB : Blk w b e cur) (hs : o + n * k ≤ cur.size) :
    ∃ w', (Builtin.clear_ #[t] ty #[.slice (some ⟨b, o, none⟩) n c]).run P w = .ok (.tuple #[]) w' ∧ (∃ cur', Blk w' b e cur' ∧ cur'.size = cur.size ∧ ∀ i, i < o → cur'[i]? = cur[i]?) ∧ Mod (fun j => j = b) w w' := by
  obtain ⟨hz, _⟩ := zero_of_info hi
  have hlen : (Builtin.zeroCells z.cells n).toList.length = n * k := by simp [Builtin.zeroCells, hk]
  have hone : ∀ v ∈ (Builtin.zeroCells z.cells n).toList, v.oneCell' = true := by
    intro v hv
    simp only [Builtin.zeroCells, Array.toList_map, List.mem_map] at hv
    obtain ⟨i, hi, rfl⟩ := hv
    have hi' : i < n * k := by simpa [hk] using hi
    have hkp : 0 < k := by
      rcases Nat.eq_zero_or_pos k with h | h
      · subst h; simp at hi'
      · exact h
    have hlt : i % z.cells.size < z.cells.size := by rw [hk]; exact Nat.mod_lt _ hkp
    rw [getElem!_pos z.cells _ hlt]
    exact h1 _ (Array.getElem_mem hlt)
  have hst := run_storeCells_cells (P := P) b o (Builtin.zeroCells z.cells n).toList 0 w (fun j hj => by
      rw [hlen] at hj
      rw [hB.cell]
      simp; omega) (fun j _ => hB.frozen _) hone
  obtain ⟨m, rfl⟩ : ∃ m, n = m + 1 := ⟨n - 1, by omega⟩
  exact ⟨w.setCells b o (Builtin.zeroCells z.cells (m + 1)).toList, by simp [Builtin.clear_, run_underlying ht, hz, hst], blk_setCells b e _ _ _ _ hB, mod_setCells b _ _ _⟩

def kept (D : Nat → Nat → Int) (now : Int) (n : Nat) : List Nat := (List.range n).filter fun i => lt (D i 0) now 1800
theorem kept_succ (D : Nat → Nat → Int) (now : Int) (n : Nat) : kept D now (n + 1) = if lt (D n 0) now 1800 then kept D now n ++ [n] else kept D now n := by
  simp only [kept, List.range_succ, List.filter_append]
  split <;> simp_all
theorem kept_le (D : Nat → Nat → Int) (now : Int) (n : Nat) : (kept D now n).length ≤ n := by
  have := List.length_filter_le (fun i => lt (D i 0) now 1800) (List.range n)
  simpa [kept] using this
theorem kept_lt (D : Nat → Nat → Int) (now : Int) (n m x : Nat) (h : (kept D now n)[m]? = some x) : x < n := by
  have := List.mem_of_getElem? h
  simp [kept] at this
  exact this.1
theorem kept_all (D : Nat → Nat → Int) (now : Int) (n : Nat) (h : ∀ i, i < n → lt (D i 0) now 1800 = true) : kept D now n = List.range n := by
  rw [kept, List.filter_eq_self]
  intro i hi
  exact h i (by simpa using hi)

/-- The row's state while what goes is taken out. -/
structure Mid (w : World) (g cap n j : Nat) (D : Nat → Nat → Int) (now : Int) (cur : Array Value) : Prop where
  blk : Blk w g 50 cur
  size : cur.size = cap * 3
  low : ∀ m x c, (kept D now j)[m]? = some x → c < 3 → cur[m * 3 + c]? = some (.int .i64 (D x c))
  high : ∀ m c, j ≤ m → m < n → c < 3 → cur[m * 3 + c]? = some (.int .i64 (D m c))

theorem Mid.start {w : World} {g cap n k : Nat} {D : Nat → Nat → Int} {now : Int} {cur : Array Value} (h : RB w g cap n cur D) (hk : k < n) (hall : ∀ i, i < k → lt (D i 0) now 1800 = true) (hno : lt (D k 0) now 1800 = false) :
    Mid w g cap n (k + 1) D now cur ∧ (kept D now (k + 1)).length = k := by
  have e : kept D now (k + 1) = List.range k := by rw [kept_succ, hno, ← kept_all D now k hall]; rfl
  refine ⟨⟨h.blk, h.size, fun m x c hx hc => ?_, fun m c h1 h2 hc => h.at_ m c h2 hc⟩, by rw [e]; simp⟩
  rw [e] at hx
  obtain ⟨hl, he⟩ := List.getElem?_eq_some_iff.1 hx
  simp at hl he
  subst he
  exact h.at_ m c (by omega) hc
theorem Mid.drop {w w' : World} {g cap n q : Nat} {D : Nat → Nat → Int} {now : Int} {cur : Array Value} (h : Mid w g cap n q D now cur) (hw : Blk w' g 50 cur) (hno : lt (D q 0) now 1800 = false) : Mid w' g cap n (q + 1) D now cur := by
  have e : kept D now (q + 1) = kept D now q := by rw [kept_succ, hno]; rfl
  exact ⟨hw, h.size, fun m x c hx hc => h.low m x c (e ▸ hx) hc, fun m c h1 h2 hc => h.high m c (by omega) h2 hc⟩
theorem Mid.keep {w w' : World} {g cap n q m : Nat} {D : Nat → Nat → Int} {now : Int} {cur : Array Value} (h : Mid w g cap n q D now cur) (hm : (kept D now q).length = m) (hmq : m < q) (hqn : q < n) (hcap : n ≤ cap)
    (hyes : lt (D q 0) now 1800 = true)
    (hw : Blk w' g 50 (((cur.setIfInBounds (m * 3) (.int .i64 (D q 0))).setIfInBounds (m * 3 + 1) (.int .i64 (D q 1))).setIfInBounds (m * 3 + 2) (.int .i64 (D q 2)))) :
    Mid w' g cap n (q + 1) D now (((cur.setIfInBounds (m * 3) (.int .i64 (D q 0))).setIfInBounds (m * 3 + 1) (.int .i64 (D q 1))).setIfInBounds (m * 3 + 2) (.int .i64 (D q 2))) := by
  have e : kept D now (q + 1) = kept D now q ++ [q] := by rw [kept_succ, hyes]; rfl
  have hs := h.size
  refine ⟨hw, by simpa using h.size, fun i x c hx hc => ?_, fun i c h1 h2 hc => ?_⟩
  · by_cases hi : i < m
    · rw [e, List.getElem?_append_left (by omega)] at hx
      rw [Array.getElem?_setIfInBounds_ne (by omega), Array.getElem?_setIfInBounds_ne (by omega), Array.getElem?_setIfInBounds_ne (by omega)]
      exact h.low i x c hx hc
    · have hl : i < (kept D now (q + 1)).length := (List.getElem?_eq_some_iff.1 hx).1
      rw [e, List.length_append, hm] at hl
      simp at hl
      obtain rfl : i = m := by omega
      rw [e, List.getElem?_append_right (by omega), hm] at hx
      simp at hx
      subst hx
      have hsz : i * 3 + 2 < cur.size := by omega
      match c, hc with
      | 0, _ => rw [Array.getElem?_setIfInBounds_ne (by omega), Array.getElem?_setIfInBounds_ne (by omega)]; exact Array.getElem?_setIfInBounds_self_of_lt (by omega)
      | 1, _ => rw [Array.getElem?_setIfInBounds_ne (by omega)]; exact Array.getElem?_setIfInBounds_self_of_lt (by simp; omega)
      | 2, _ => exact Array.getElem?_setIfInBounds_self_of_lt (by simp; omega)
  · rw [Array.getElem?_setIfInBounds_ne (by omega), Array.getElem?_setIfInBounds_ne (by omega), Array.getElem?_setIfInBounds_ne (by omega)]
    exact h.high i c (by omega) h2 hc

set_option maxRecDepth 100000 in
set_option maxHeartbeats 1000000 in
theorem delete45 (A : Option Addr) (g n cap : Nat) (cur : Array Value) (D : Nat → Nat → Int) (now : Int) (bx : Nat) (w : World) (hA : 0 < n → A = some ⟨g, 0, none⟩) (hr : 0 < n → RB w g cap n cur D) (hn : n ≤ 60) (hne : bx ≠ g)
    (hbx : w.cell? ⟨bx, 0, none⟩ = some (.int .i64 now)) (h1 : -9223372036854775808 ≤ now) (h2 : now ≤ 9223372036854775807) :
    Calls Try.prog 45 #[.slice A n cap, .func (.func 47) #[] #[.pointer (some ⟨bx, 0, none⟩)]] w fun e w' => e = .returned (.slice A (kept D now n).length cap) ∧ Mod (fun k => k = g) w w' ∧
      (0 < n → ∃ cur', Blk w' g 50 cur' ∧ cur'.size = cap * 3 ∧ ∀ m x c, (kept D now n)[m]? = some x → c < 3 → cur'[m * 3 + c]? = some (.int .i64 (D x c))) := by
  have hlt : bx < w.heap.size := by
    by_cases h : bx < w.heap.size
    · exact h
    · simp [World.cell?, Array.getElem?_eq_none (Nat.le_of_not_lt h)] at hbx
  go_enter Try.func45, Try.ntmps45
  go_wp2_with fail
  refine (index75 A g n cap cur D now bx _ hA hr hn hbx h1 h2).mono ?_
  rintro e w1 ⟨⟨k, hk, ⟨hall, hno⟩, rfl⟩, hm1⟩
  have HM1 := Lib.hid (hm1.weaken (T := fun j => j = g) (fun _ _ f => f.elim))
  by_cases hkn : k < n
  · have hr' := hr (by omega)
    obtain rfl := hA (by omega)
    obtain ⟨hmid, hlen⟩ := Mid.start hr' hkn hall (hno hkn)
    have hmid1 : Mid w1 g cap n (k + 1) D now cur := ⟨hmid.blk.mod hm1 (fun f => f), hmid.size, hmid.low, hmid.high⟩
    have HMID := Lib.hid hmid1
    have HLEN := Lib.hid hlen
    have HRNG := Lib.hid hr'.rng
    have hcap := hr'.cap
    have HG := Lib.hid hr'.blk.lt
    have HNE := Lib.hid hne
    have HBX := Lib.hid hbx
    clear hr hA hr' hall hno hmid hmid1 hlen hm1 hne hbx
    rw [if_pos hkn]
    go_wp2_with fail
    go_loopw [5, 6] (fun i j wr => ∃ (q m : Nat) (c : Array Value), q ≤ n ∧ m < q ∧ j = .int .i64 q ∧ i = .int .i64 m ∧ (kept D now q).length = m ∧ Mod (fun k => k = g) w wr ∧ Mid wr g cap n q D now c) (fun _ j _ => n - (intOf j).toNat)
    case atStart => exact ⟨k + 1, k, cur, by omega, by omega, by push_cast; rfl, rfl, HLEN.out, HM1.out, HMID.out⟩
    case round =>
      obtain ⟨q, m, c, hq, hmq, rfl, rfl, hl, hmod, hmid⟩ := hrel
      have HM := Lib.hid hmod
      have HMD := Lib.hid hmid
      have HL := Lib.hid hl
      clear hmod hmid hl
      by_cases hqn : q < n
      · have hblk := HMD.out.blk
        have HB := Lib.hid hblk
        clear hblk
        have hc0 : wr.cell? ⟨g, q * 3, none⟩ = some (.int .i64 (D q 0)) := (HB.out.cell _).trans (HMD.out.high q 0 (by omega) hqn (by omega))
        have hc1 : wr.cell? ⟨g, q * 3 + 1, none⟩ = some (.int .i64 (D q 1)) := (HB.out.cell _).trans (HMD.out.high q 1 (by omega) hqn (by omega))
        have hc2 : wr.cell? ⟨g, q * 3 + 2, none⟩ = some (.int .i64 (D q 2)) := (HB.out.cell _).trans (HMD.out.high q 2 (by omega) hqn (by omega))
        obtain ⟨ob, hob⟩ : ∃ ob, ob = Obj.cells #[.int .i64 (D q 0), .int .i64 (D q 1), .int .i64 (D q 2)] 50 := ⟨_, rfl⟩
        have hgl : g < wr.heap.size := HB.out.lt
        have hrn := HRNG.out q hqn
        have hbx' : (wr.alloc (.cells #[.int .i64 (D q 0), .int .i64 (D q 1), .int .i64 (D q 2)] 50)).cell? ⟨bx, 0, none⟩ = some (.int .i64 now) := by
          rw [ca_lt _ _ (Nat.lt_of_lt_of_le hlt HM.out.size)]
          exact (HM.out.cell hlt HNE.out).trans HBX.out
        have HBX' := Lib.hid hbx'
        clear hbx' hob
        have hsz := HMD.out.size
        by_cases hk : lt (D q 0) now 1800 = true
        · have HK := Lib.hid hk
          obtain ⟨u0, hu0⟩ : ∃ u, c[m * 3]? = some u := ⟨_, Array.getElem?_eq_getElem (by omega)⟩
          obtain ⟨u1, hu1⟩ : ∃ u, c[m * 3 + 1]? = some u := ⟨_, Array.getElem?_eq_getElem (by omega)⟩
          obtain ⟨u2, hu2⟩ : ∃ u, c[m * 3 + 2]? = some u := ⟨_, Array.getElem?_eq_getElem (by omega)⟩
          have HU0 := Lib.hid hu0
          have HU1 := Lib.hid hu1
          have HU2 := Lib.hid hu2
          clear hu0 hu1 hu2
          go_wp2_with fail
          refine (keep47 _ _ _ now bx _ HBX'.out (by omega) (by omega) (by omega)).mono ?_
          rintro e w3 ⟨rfl, hw3⟩
          have hB3 : Blk w3 g 50 c := by rw [hw3]; exact (HB.out.alloc _).alloc _
          have HM3 := Lib.hid (show Mod (fun k => k = g) w w3 by rw [hw3]; exact (HM.out.alloc _).alloc _)
          have hx0 : w3.cell? ⟨wr.heap.size, 0, none⟩ = some (.int .i64 (D q 0)) := by rw [hw3, ca_lt _ _ (by simp)]; exact (Blk.new wr 50 _).cell 0
          have hx1 : w3.cell? ⟨wr.heap.size, 1, none⟩ = some (.int .i64 (D q 1)) := by rw [hw3, ca_lt _ _ (by simp)]; exact (Blk.new wr 50 _).cell 1
          have hx2 : w3.cell? ⟨wr.heap.size, 2, none⟩ = some (.int .i64 (D q 2)) := by rw [hw3, ca_lt _ _ (by simp)]; exact (Blk.new wr 50 _).cell 2
          have hm0 : w3.cell? ⟨g, m * 3, none⟩ = some u0 := (hB3.cell _).trans HU0.out
          have hm1 : w3.cell? ⟨g, m * 3 + 1, none⟩ = some u1 := (hB3.cell _).trans HU1.out
          have hm2 : w3.cell? ⟨g, m * 3 + 2, none⟩ = some u2 := (hB3.cell _).trans HU2.out
          have hf0 : ∀ i, w3.frozen? ⟨g, i, none⟩ = false := hB3.frozen
          have HB3 := Lib.hid hB3
          have hne3 : g ≠ wr.heap.size := by omega
          clear hB3 hw3 hc0 hc1 hc2
          go_wp2
          go_roundw
          case rel => exact ⟨_, _, _, _, _, _, _, _, _, _, _, _, _, _, _, _, _, _, _, _, _, _, _, ⟨q + 1, m + 1, _, by omega, by omega, by push_cast; rfl, by push_cast; rfl, by rw [kept_succ, HK.out]; simp [HL.out], ((HM3.out.setCell (fun _ => rfl) _).setCell (fun _ => rfl) _).setCell (fun _ => rfl) _, HMD.out.keep HL.out hmq hqn hcap HK.out (((HB3.out.set_ _ _).set_ _ _).set_ _ _)⟩, rfl⟩
          case measure => simp [intOf]; omega
        · have hk' : lt (D q 0) now 1800 = false := by simpa using hk
          go_wp2_with (go_at_call 47; refine (keep47 _ _ _ now bx _ HBX'.out (by omega) (by omega) (by omega)).mono ?_; rintro e w' ⟨rfl, rfl⟩)
          go_roundw
          case rel => exact ⟨_, _, _, _, _, _, _, _, _, _, _, _, _, _, _, _, _, _, _, _, _, _, _, ⟨q + 1, m, c, by omega, by omega, by push_cast; rfl, rfl, by rw [kept_succ, hk']; exact HL.out, (HM.out.alloc _).alloc _, HMD.out.drop ((HB.out.alloc _).alloc _) hk'⟩, rfl⟩
          case measure => simp [intOf]; omega
      · obtain rfl : q = n := by omega
        have hsz := HMD.out.size
        obtain ⟨w4, hrun, ⟨c4, hB4, hs4, hlow⟩, hm4⟩ := run_clear_blk (P := Try.prog) wr 47 50 0 (.agg #[.int .i64 0, .int .i64 0, .int .i64 0]) 3 Try.underlying47 (by kernel_rfl) rfl (by simp [Value.cells, Value.oneCell']) g (m * 3) (q - m) (cap - m) (by omega) c HMD.out.blk (by omega)
        have HB4 := Lib.hid hB4
        have HS4 := Lib.hid hs4
        have HLOW := Lib.hid hlow
        have HM4 := Lib.hid hm4
        clear hB4 hs4 hlow hm4
        go_wp2
        go_ret
        refine ⟨by rw [HL.out]; rfl, HM.out.then HM4.out (fun j _ e => e), fun _ => ⟨c4, HB4.out, by rw [HS4.out, hsz], fun i x j hx hj => ?_⟩⟩
        have hi := (List.getElem?_eq_some_iff.1 hx).1
        rw [HL.out] at hi
        rw [HLOW.out _ (by omega)]
        exact HMD.out.low i x j hx hj
  · obtain rfl : k = n := by omega
    rw [if_neg hkn]
    have hall' := kept_all D now k hall
    have HALL := Lib.hid hall'
    have HRR := Lib.hid hr
    have HM0 := Lib.hid hm1
    clear hr hA hall hno hall' hm1
    go_wp2
    go_ret
    refine ⟨by rw [HALL.out]; simp, HM1.out, fun h => ⟨cur, (HRR.out h).blk.mod HM0.out (fun f => f), (HRR.out h).size, fun i x j hx hj => ?_⟩⟩
    rw [HALL.out] at hx
    obtain ⟨hl, he⟩ := List.getElem?_eq_some_iff.1 hx
    simp at hl he
    subst he
    exact (HRR.out h).at_ i j (by omega) hj
end Go.Proofs.Ytbmagajagmchoaa.PolC
