/- What the functions answer (part 0). -/
import Derived.Test.YthamjdhggcmpgaaPP
set_option linter.unusedSimpArgs false
set_option linter.unusedVariables false
set_option maxRecDepth 100000
namespace Go.Proofs.Cp
open Go
theorem FV_of {P : Prog} {sh : Nat → Bool} {g : Nat} {args : List DV} {d e : DV} {H : VHeap} (h : F P sh g args [] 0 = some (d, H)) (hd : frzD H 6 d = some e) : FV P sh g args = some e := by
  unfold FV; rw [h]; exact hd
theorem FV_I {P : Prog} {sh : Nat → Bool} {g : Nat} {args : List DV} {n : Int} {H : VHeap} (h : F P sh g args [] 0 = some (dI n, H)) : FV P sh g args = some (dI n) := FV_of h rfl
theorem FV_B {P : Prog} {sh : Nat → Bool} {g : Nat} {args : List DV} {b : Bool} {H : VHeap} (h : F P sh g args [] 0 = some (dB b, H)) : FV P sh g args = some (dB b) := FV_of h rfl
theorem hs_self {H : VHeap} {b : Nat} (hb : b < H.length) : hs H b (hg H b) = H := by
  apply VHeap.ext'
  · rw [hs_len]; omega
  · intro c
    rw [hg_hs]; split
    · rename_i h; rw [h]
    · rfl
theorem hg_lt {H : VHeap} {b : Nat} (h : (hg H b).live = true) : b < H.length := by
  rcases Nat.lt_or_ge b H.length with h1 | h1
  · exact h1
  · rw [hg_ge H h1] at h; cases h
/-- A whole number of 64 bits. -/
def I64 (x : Int) : Prop := -9223372036854775808 ≤ x ∧ x ≤ 9223372036854775807
def I64s (l : List Int) : Prop := ∀ x, x ∈ l → I64 x

theorem F_Mod (v n : Int) (hv : I64 v) (h3 : 0 < n) (h4 : n ≤ 4611686018427387904) : F PP shF 16 [dI v, dI n] [] 0 = some (dI (v % n), []) := by
  obtain ⟨h1, h2⟩ := hv
  rw [F_fun PP16 rfl ⟨by simp [ir16], by simp⟩]
  have hn : n ≠ 0 := by omega
  simp -implicitDefEqProofs only [go_sem, ↓reduceIte, Nat.reduceEqDiff, Nat.reduceAdd, Nat.reduceSub, Nat.reduceMul, Nat.reduceLeDiff, Nat.reduceLT, Nat.reduceBEq, Nat.reduceBNe, reduceCtorEq, beq_self_eq_true, Int.toNat_natCast, List.length_map, List.length_nil, Int.reduceToNat, Int.reduceAdd, Int.reduceSub, Int.reduceMul, Int.reduceLT, Int.reduceLE, Int.reduceEq, Int.reduceBEq, Int.reduceNeg, decide_true, decide_false, Nat.le_max_left, Nat.le_max_right, ne_eq, not_true_eq_false, not_false_eq_true, Int.natCast_zero, gt_iff_lt, ge_iff_le, Int.reduceGT, Int.reduceGE, Bool.false_and, Bool.and_false, Bool.true_and, Bool.and_true, ir16, if_neg hn]
  have hlt := Int.tmod_lt_of_pos v h3
  have hge : -n < v.tmod n := by
    have := Int.lt_tmod_of_pos v h3
    exact this
  rw [w64 (by omega) (by omega)]
  congr 4
  rcases Int.le_total 0 v with h | h
  · rw [Int.tmod_eq_emod_of_nonneg h, Int.tmod_eq_emod_of_nonneg (by have := Int.emod_nonneg v hn; omega)]
    simp
  · rw [Int.tmod_eq_emod_of_nonneg (by omega)]
    rw [Int.tmod_eq_emod]
    split
    · simp
    · have : (n.natAbs : Int) = n := by omega
      simp [this, Int.sub_add_cancel]
theorem FV_Mod (v n : Int) (hv : I64 v) (h3 : 0 < n) (h4 : n ≤ 4611686018427387904) : FV PP shF 16 [dI v, dI n] = some (dI (v % n)) := FV_of (F_Mod v n hv h3 h4) rfl
theorem FV_Between (v low high : Int) (hv : I64 v) (h0 : -1000000000 ≤ low) (h1 : low ≤ high) (h2 : high ≤ 1000000000) : FV PP shF 15 [dI v, dI low, dI high] = some (dI (low + v % (high - low + 1))) := by
  refine FV_I (H := []) ?_
  rw [F_fun PP15 rfl ⟨by simp [ir15], by simp⟩]
  have e1 : IntKind.wrap .i64 (high - low) = high - low := w64 (by omega) (by omega)
  have e2 : IntKind.wrap .i64 (high - low + 1) = high - low + 1 := w64 (by omega) (by omega)
  have hm := Int.emod_lt_of_pos v (show 0 < high - low + 1 by omega)
  have hm0 := Int.emod_nonneg v (show high - low + 1 ≠ 0 by omega)
  have e3 : IntKind.wrap .i64 (low + v % (high - low + 1)) = low + v % (high - low + 1) := w64 (by omega) (by omega)
  simp -implicitDefEqProofs only [go_sem, ↓reduceIte, Nat.reduceEqDiff, Nat.reduceAdd, Nat.reduceSub, Nat.reduceMul, Nat.reduceLeDiff, Nat.reduceLT, Nat.reduceBEq, Nat.reduceBNe, reduceCtorEq, beq_self_eq_true, Int.toNat_natCast, List.length_map, List.length_nil, Int.reduceToNat, Int.reduceAdd, Int.reduceSub, Int.reduceMul, Int.reduceLT, Int.reduceLE, Int.reduceEq, Int.reduceBEq, Int.reduceNeg, decide_true, decide_false, Nat.le_max_left, Nat.le_max_right, ne_eq, not_true_eq_false, not_false_eq_true, Int.natCast_zero, gt_iff_lt, ge_iff_le, Int.reduceGT, Int.reduceGE, Bool.false_and, Bool.and_false, Bool.true_and, Bool.and_true, ir15, e1, e2, vpS (FV_Mod _ _ hv (show 0 < high - low + 1 by omega) (by omega)) rfl, e3]
theorem FV_Light (l : List Int) : FV PP shF 11 [dL l] = some (dB (decide (l.length ≤ 200))) := by
  refine FV_B (H := []) ?_
  rw [F_fun PP11 rfl ⟨by simp [ir11], by simp⟩]
  simp only [ir11, go_sem, ↓reduceIte, Nat.reduceEqDiff, reduceCtorEq, List.length_map]
  simp
  omega

/-- A tape. -/
abbrev tapeB (ver : Nat) (L : List Int) (i : Nat) : VB := ⟨ver, 0, true, [[dL L, dI (i : Nat)]]⟩
theorem Next_ex (L : List Int) (i : Nat) (n : Int) (hL : I64s L) (hi : i < 1000000000) (h0 : 0 < n) (hn : n ≤ 1073741824) :
    ∃ (v : Int) (i' : Nat), 0 ≤ v ∧ v < n ∧ i ≤ i' ∧ i' ≤ i + 1 ∧ ∀ (H : VHeap) (b ver base : Nat), hg H b = tapeB ver L i → H.length ≤ base →
      F PP shF 50 [.mp b ver 0 0, dI n] H base = some (dI v, hs H b (tapeB ver L i')) := by
  by_cases hL0 : L = []
  · subst hL0
    refine ⟨0, i, by omega, h0, by omega, by omega, fun H b ver base hb hbase => ?_⟩
    have hself : hs H b (tapeB ver [] i) = H := by rw [← hb]; exact hs_self (hg_lt (by rw [hb]))
    rw [F_fun PP50 rfl ⟨by simp [ir50], by simpa using hbase⟩, hself]
    simp -implicitDefEqProofs only [go_sem, ↓reduceIte, Nat.reduceEqDiff, Nat.reduceAdd, Nat.reduceSub, Nat.reduceMul, Nat.reduceLeDiff, Nat.reduceLT, Nat.reduceBEq, Nat.reduceBNe, reduceCtorEq, beq_self_eq_true, Int.toNat_natCast, List.length_map, List.length_nil, Int.reduceToNat, Int.reduceAdd, Int.reduceSub, Int.reduceMul, Int.reduceLT, Int.reduceLE, Int.reduceEq, Int.reduceBEq, Int.reduceNeg, decide_true, decide_false, Nat.le_max_left, Nat.le_max_right, ne_eq, not_true_eq_false, not_false_eq_true, Int.natCast_zero, gt_iff_lt, ge_iff_le, Int.reduceGT, Int.reduceGE, Bool.false_and, Bool.and_false, Bool.true_and, Bool.and_true, ir50, hb, List.map_nil]
  · have hl : L.length ≠ 0 := by cases L <;> simp_all
    have e1 : ((L.length : Int) == 0) = false := by simp; exact hL0
    have e2 : ¬ (L.length : Int) = 0 := by omega
    have e3 : (i : Int).tmod L.length = ((i % L.length : Nat) : Int) := by rw [Int.tmod_eq_emod_of_nonneg (by omega)]; rfl
    have e4 : (i : Int).tdiv L.length = ((i / L.length : Nat) : Int) := by rw [Int.tdiv_eq_ediv_of_nonneg (by omega)]; rfl
    have hlt : i % L.length < L.length := Nat.mod_lt _ (by omega)
    have e5 : (0 : Int) ≤ ((i % L.length : Nat) : Int) ∧ ((i % L.length : Nat) : Int) < (L.length : Int) := by omega
    have e6 : (L.map fun z => [dI z])[i % L.length]? = some [dI (L.getD (i % L.length) 0)] := by
      rw [List.getElem?_map, List.getElem?_eq_getElem hlt]; simp [List.getD_eq_getElem?_getD, List.getElem?_eq_getElem hlt]
    have hd : i / L.length ≤ i := Nat.div_le_self _ _
    have e7 : IntKind.wrap .i64 ((i : Int) + 1) = ((i + 1 : Nat) : Int) := by rw [w64 (by omega) (by omega)]; rfl
    have hx := hL (L.getD (i % L.length) 0) (by rw [List.getD_eq_getElem?_getD, List.getElem?_eq_getElem hlt]; exact List.getElem_mem hlt)
    refine ⟨((L.getD (i % L.length) 0) % 1073741824 + ((i / L.length : Nat) : Int) * 7) % n, i + 1, Int.emod_nonneg _ (by omega), Int.emod_lt_of_pos _ h0, by omega, by omega, fun H b ver base hb hbase => ?_⟩
    rw [F_fun PP50 rfl ⟨by simp [ir50], by simpa using hbase⟩]
    generalize i / L.length = q at *
    have e10 : IntKind.wrap .i64 (q : Int) = (q : Int) := w64 (by omega) (by omega)
    have e8 : IntKind.wrap .i64 ((q : Int) * 7) = (q : Int) * 7 := w64 (by omega) (by omega)
    have hm := Int.emod_lt_of_pos (L.getD (i % L.length) 0) (show (0 : Int) < 1073741824 by omega)
    have hm0 := Int.emod_nonneg (L.getD (i % L.length) 0) (show (1073741824 : Int) ≠ 0 by omega)
    have e9 : IntKind.wrap .i64 ((L.getD (i % L.length) 0) % 1073741824 + (q : Int) * 7) = (L.getD (i % L.length) 0) % 1073741824 + (q : Int) * 7 := w64 (by omega) (by omega)
    simp -implicitDefEqProofs only [go_sem, ↓reduceIte, Nat.reduceEqDiff, Nat.reduceAdd, Nat.reduceSub, Nat.reduceMul, Nat.reduceLeDiff, Nat.reduceLT, Nat.reduceBEq, Nat.reduceBNe, reduceCtorEq, beq_self_eq_true, Int.toNat_natCast, List.length_map, List.length_nil, Int.reduceToNat, Int.reduceAdd, Int.reduceSub, Int.reduceMul, Int.reduceLT, Int.reduceLE, Int.reduceEq, Int.reduceBEq, Int.reduceNeg, decide_true, decide_false, Nat.le_max_left, Nat.le_max_right, ne_eq, not_true_eq_false, not_false_eq_true, Int.natCast_zero, gt_iff_lt, ge_iff_le, Int.reduceGT, Int.reduceGE, Bool.false_and, Bool.and_false, Bool.true_and, Bool.and_true, ir50, hb, reduceCtorEq, e1, e2, e3, e4, e5, e6, e7, e8, e9, e10, Int.toNat_natCast, List.length_map,
      vpS (FV_Mod _ _ hx (show (0 : Int) < 1073741824 by omega) (by omega)) rfl, vpS (FV_Mod ((L.getD (i % L.length) 0) % 1073741824 + (q : Int) * 7) n ⟨by omega, by omega⟩ h0 (by omega)) rfl]
theorem Range_ex (L : List Int) (i : Nat) (low high : Int) (hL : I64s L) (hi : i < 1000000000) (hl : -1000 ≤ low) (h0 : low ≤ high) (hn : high ≤ 1073740000) :
    ∃ (v : Int) (i' : Nat), low ≤ v ∧ v ≤ high ∧ i ≤ i' ∧ i' ≤ i + 1 ∧ ∀ (H : VHeap) (b ver base : Nat), hg H b = tapeB ver L i → H.length ≤ base →
      F PP shF 61 [.mp b ver 0 0, dI low, dI high] H base = some (dI v, hs H b (tapeB ver L i')) := by
  obtain ⟨v, i', h1, h2, h3, h4, h5⟩ := Next_ex L i (high - low + 1) hL hi (by omega) (by omega)
  refine ⟨low + v, i', by omega, by omega, h3, h4, fun H b ver base hb hbase => ?_⟩
  have e1 : IntKind.wrap .i64 (high - low) = high - low := w64 (by omega) (by omega)
  have e2 : IntKind.wrap .i64 (high - low + 1) = high - low + 1 := w64 (by omega) (by omega)
  have e3 : IntKind.wrap .i64 (low + v) = low + v := w64 (by omega) (by omega)
  rw [F_fun PP61 rfl ⟨by simp [ir61], by simpa using hbase⟩]
  simp -implicitDefEqProofs only [go_sem, ↓reduceIte, Nat.reduceEqDiff, Nat.reduceAdd, Nat.reduceSub, Nat.reduceMul, Nat.reduceLeDiff, Nat.reduceLT, Nat.reduceBEq, Nat.reduceBNe, reduceCtorEq, beq_self_eq_true, Int.toNat_natCast, List.length_map, List.length_nil, Int.reduceToNat, Int.reduceAdd, Int.reduceSub, Int.reduceMul, Int.reduceLT, Int.reduceLE, Int.reduceEq, Int.reduceBEq, Int.reduceNeg, decide_true, decide_false, Nat.le_max_left, Nat.le_max_right, ne_eq, not_true_eq_false, not_false_eq_true, Int.natCast_zero, gt_iff_lt, ge_iff_le, Int.reduceGT, Int.reduceGE, Bool.false_and, Bool.and_false, Bool.true_and, Bool.and_true, ir61, hb, e1, e2, h5, e3]
theorem Yes_ex (L : List Int) (i : Nat) (n : Int) (hL : I64s L) (hi : i < 1000000000) (h0 : 0 < n) (hn : n ≤ 1073741824) :
    ∃ (v : Bool) (i' : Nat), i ≤ i' ∧ i' ≤ i + 1 ∧ ∀ (H : VHeap) (b ver base : Nat), hg H b = tapeB ver L i → H.length ≤ base →
      F PP shF 62 [.mp b ver 0 0, dI n] H base = some (dB v, hs H b (tapeB ver L i')) := by
  obtain ⟨v, i', h1, h2, h3, h4, h5⟩ := Next_ex L i n hL hi h0 hn
  refine ⟨v == 0, i', h3, h4, fun H b ver base hb hbase => ?_⟩
  rw [F_fun PP62 rfl ⟨by simp [ir62], by simpa using hbase⟩]
  simp -implicitDefEqProofs only [go_sem, ↓reduceIte, Nat.reduceEqDiff, Nat.reduceAdd, Nat.reduceSub, Nat.reduceMul, Nat.reduceLeDiff, Nat.reduceLT, Nat.reduceBEq, Nat.reduceBNe, reduceCtorEq, beq_self_eq_true, Int.toNat_natCast, List.length_map, List.length_nil, Int.reduceToNat, Int.reduceAdd, Int.reduceSub, Int.reduceMul, Int.reduceLT, Int.reduceLE, Int.reduceEq, Int.reduceBEq, Int.reduceNeg, decide_true, decide_false, Nat.le_max_left, Nat.le_max_right, ne_eq, not_true_eq_false, not_false_eq_true, Int.natCast_zero, gt_iff_lt, ge_iff_le, Int.reduceGT, Int.reduceGE, Bool.false_and, Bool.and_false, Bool.true_and, Bool.and_true, ir62, hb, h5]
/-- A new tape: one block. -/
theorem F_New (L : List Int) : F PP shF 48 [dL L] [] 0 = some (.mp 5 1 0 0, hs [] 5 (tapeB 1 L 0)) := by
  rw [F_fun PP48 rfl ⟨by simp [ir48], by simp⟩]
  simp -implicitDefEqProofs only [go_sem, ↓reduceIte, Nat.reduceEqDiff, Nat.reduceAdd, Nat.reduceSub, Nat.reduceMul, Nat.reduceLeDiff, Nat.reduceLT, Nat.reduceBEq, Nat.reduceBNe, reduceCtorEq, beq_self_eq_true, Int.toNat_natCast, List.length_map, List.length_nil, Int.reduceToNat, Int.reduceAdd, Int.reduceSub, Int.reduceMul, Int.reduceLT, Int.reduceLE, Int.reduceEq, Int.reduceBEq, Int.reduceNeg, decide_true, decide_false, Nat.le_max_left, Nat.le_max_right, ne_eq, not_true_eq_false, not_false_eq_true, Int.natCast_zero, gt_iff_lt, ge_iff_le, Int.reduceGT, Int.reduceGE, Bool.false_and, Bool.and_false, Bool.true_and, Bool.and_true, ir48]
  rfl
theorem vp_New (L : List Int) (base d : Nat) (H : VHeap) : vpure PP shF base (some d) 48 true false H [dL L] = some (.mp (base + d) ((hg H (base + d)).ver + 1) 0 0, some (hs H (base + d) (tapeB ((hg H (base + d)).ver + 1) L 0))) := by
  unfold vpure
  rw [F_New]
  simp -implicitDefEqProofs only [go_sem, ↓reduceIte, Nat.reduceEqDiff, Nat.reduceAdd, Nat.reduceSub, Nat.reduceMul, Nat.reduceLeDiff, Nat.reduceLT, Nat.reduceBEq, Nat.reduceBNe, reduceCtorEq, beq_self_eq_true, Int.toNat_natCast, List.length_map, List.length_nil, Int.reduceToNat, Int.reduceAdd, Int.reduceSub, Int.reduceMul, Int.reduceLT, Int.reduceLE, Int.reduceEq, Int.reduceBEq, Int.reduceNeg, decide_true, decide_false, Nat.le_max_left, Nat.le_max_right, ne_eq, not_true_eq_false, not_false_eq_true, Int.natCast_zero, gt_iff_lt, ge_iff_le, Int.reduceGT, Int.reduceGE, Bool.false_and, Bool.and_false, Bool.true_and, Bool.and_true, vback]
  rfl
structure Cell where
  zone : Int
  cap : Int
structure Ten where
  load : Int
  shadow : Int
  prio : Int
  lag : Int
  allowed : Int
  group : Int
  noisy : Bool
structure Ver where
  low : Int
  high : Int
structure Conf where
  regions : Int
  zones : List Int
  cells : List Cell
  tens : List Ten
  vers : List Ver
  reps : List Int
  obs : List Int
  blast : Int
  lease : Int
  bake : Int
abbrev eI (z : Int) : List DV := [dI z]
abbrev eC (c : Cell) : List DV := [dI c.zone, dI c.cap]
abbrev eT (t : Ten) : List DV := [dI t.load, dI t.shadow, dI t.prio, dI t.lag, dI t.allowed, dI t.group, dB t.noisy]
abbrev eV (v : Ver) : List DV := [dI v.low, dI v.high]
abbrev eK (c : Conf) : List DV := [dI c.regions, .sl (c.zones.map eI), .sl (c.cells.map eC), .sl (c.tens.map eT), .sl (c.vers.map eV), .sl (c.reps.map eI), .sl (c.obs.map eI), dI c.blast, dI c.lease, dI c.bake]
/-- Where Config stands. -/
structure CS (L : List Int) (s : VSt) (i : Nat) (r bl le ba : Int) (zv cv tv vv rv ov : DV) : Prop where
  e2 : gt .bad s.E 2 = .mp 2 1 0 0
  e3 : gt .bad s.E 3 = .mp 15 1 0 0
  e4 : gt .bad s.E 4 = .mp 4 1 0 0
  h2 : hg s.H 2 = ⟨1, 0, true, [[dI 0, .lit (.slice none 0 0), .lit (.slice none 0 0), .lit (.slice none 0 0), .lit (.slice none 0 0), .lit (.slice none 0 0), .lit (.slice none 0 0), dI 0, dI 0, dI 0]]⟩
  h4 : hg s.H 4 = ⟨1, 0, true, [[dI r, zv, cv, tv, vv, rv, ov, dI bl, dI le, dI ba]]⟩
  h15 : hg s.H 15 = tapeB 1 L i
  hi : i < 100000
/-- The zones: k of them are made. -/
def L0 (L : List Int) (r bl le ba : Int) (k : Nat) (s : VSt) : Prop := ∃ (zs : List Int) (i : Nat) (zv : DV), CS L s i r bl le ba zv (.lit (.slice none 0 0)) (.lit (.slice none 0 0)) (.lit (.slice none 0 0)) (.lit (.slice none 0 0)) (.lit (.slice none 0 0)) ∧
  SlB s.H 49 1 (zs.map eI) zv ∧ i ≤ 10 + k ∧ gt .bad s.E 5 = dI (k : Nat) ∧ zs.length = k ∧ k ≤ 6 ∧ ∀ z, z ∈ zs → 0 ≤ z ∧ z < r
def Q0 (L : List Int) (r bl le ba : Int) (e : Ex) (s : VSt) : Prop := e = .exit 0 ∧ ∃ (zs : List Int) (i : Nat) (zv : DV), CS L s i r bl le ba zv (.lit (.slice none 0 0)) (.lit (.slice none 0 0)) (.lit (.slice none 0 0)) (.lit (.slice none 0 0)) (.lit (.slice none 0 0)) ∧
  SlB s.H 49 1 (zs.map eI) zv ∧ i ≤ 20 ∧ r ≤ (zs.length : Int) ∧ zs.length ≤ 6 ∧ ∀ z, z ∈ zs → 0 ≤ z ∧ z < r
theorem config_l0 (L : List Int) (hL : I64s L) (r bl le ba : Int) (hr : 1 ≤ r ∧ r ≤ 3) : ∀ (k : Nat) s, L0 L r bl le ba k s → Ok (R PP shF 0 182 (.loop ir28_l0) s) (Q0 L r bl le ba) := by
  refine Ok_up 6 (L0 L r bl le ba) fun k s hI => ?_
  obtain ⟨zs, i, zv, C, hz, hi, e5, len, hk, rg⟩ := hI
  obtain ⟨v, i', hv1, hv2, hF⟩ := Yes_ex L i 3 hL (by have := C.hi; omega) (by omega) (by omega)
  obtain ⟨E, H⟩ := s
  obtain ⟨e2, e3, e4, h2, h4, h15, hi0⟩ := C
  simp only at e2 e3 e4 h2 h4 h15 e5 hz
  have w1 : IntKind.wrap .i64 ((k : Int) + 1) = ((k + 1 : Nat) : Int) := by rw [w64 (by omega) (by omega)]; rfl
  have hr0 : ¬ r = 0 := by omega
  have hm : ∀ z, z ∈ zs ++ [(k : Int).tmod r] → 0 ≤ z ∧ z < r := by
    intro z hz
    rcases List.mem_append.1 hz with hz | hz
    · exact rg z hz
    · simp at hz; subst hz
      exact ⟨Int.tmod_nonneg _ (by omega), Int.tmod_lt_of_pos _ (by omega)⟩
  have c1 : ¬ zs.length + 1 ≤ zs.length := by omega
  have c2 : (zs.length + 1) * 8 ≤ 140737488355328 ∧ zs.length ≤ 9223372036854775806 := by omega
  have ht : List.take zs.length (zs.map eI) = zs.map eI := List.take_of_length_le (by simp)
  by_cases hlt : (k : Int) < r
  · have d1 : decide ((k : Int) < r) = true := by simpa using hlt
    rcases hz with ⟨hz, rfl⟩ | ⟨hz, ver, rfl, hb⟩
    · simp -implicitDefEqProofs only [go_sem, ↓reduceIte, Nat.reduceEqDiff, Nat.reduceAdd, Nat.reduceSub, Nat.reduceMul, Nat.reduceLeDiff, Nat.reduceLT, Nat.reduceBEq, Nat.reduceBNe, reduceCtorEq, beq_self_eq_true, Int.toNat_natCast, List.length_map, List.length_nil, Int.reduceToNat, Int.reduceAdd, Int.reduceSub, Int.reduceMul, Int.reduceLT, Int.reduceLE, Int.reduceEq, Int.reduceBEq, Int.reduceNeg, decide_true, decide_false, Nat.le_max_left, Nat.le_max_right, ne_eq, not_true_eq_false, not_false_eq_true, Int.natCast_zero, gt_iff_lt, ge_iff_le, Int.reduceGT, Int.reduceGE, Bool.false_and, Bool.and_false, Bool.true_and, Bool.and_true, ir28_l0, e2, e3, e4, e5, h2, h4, h15, d1, w1, hr0]
      refine .next (by omega) ⟨zs ++ [(k : Int).tmod r], i, .ms 49 ((hg H 49).ver + 1) 0 1 1, ⟨?_, ?_, ?_, ?_, ?_, ?_, hi0⟩, SlB.mk ?_ ?_ ?_, by omega, ?_, by simp [len], by omega, hm⟩ <;> simp -implicitDefEqProofs only [go_sem, ↓reduceIte, Nat.reduceEqDiff, Nat.reduceAdd, Nat.reduceSub, Nat.reduceMul, Nat.reduceLeDiff, Nat.reduceLT, Nat.reduceBEq, Nat.reduceBNe, reduceCtorEq, beq_self_eq_true, Int.toNat_natCast, List.length_map, List.length_nil, Int.reduceToNat, Int.reduceAdd, Int.reduceSub, Int.reduceMul, Int.reduceLT, Int.reduceLE, Int.reduceEq, Int.reduceBEq, Int.reduceNeg, decide_true, decide_false, Nat.le_max_left, Nat.le_max_right, ne_eq, not_true_eq_false, not_false_eq_true, Int.natCast_zero, gt_iff_lt, ge_iff_le, Int.reduceGT, Int.reduceGE, Bool.false_and, Bool.and_false, Bool.true_and, Bool.and_true, e2, e3, e4, e5, h2, h4, h15, w1, List.map_append, hz]
    · simp -implicitDefEqProofs only [go_sem, ↓reduceIte, Nat.reduceEqDiff, Nat.reduceAdd, Nat.reduceSub, Nat.reduceMul, Nat.reduceLeDiff, Nat.reduceLT, Nat.reduceBEq, Nat.reduceBNe, reduceCtorEq, beq_self_eq_true, Int.toNat_natCast, List.length_map, List.length_nil, Int.reduceToNat, Int.reduceAdd, Int.reduceSub, Int.reduceMul, Int.reduceLT, Int.reduceLE, Int.reduceEq, Int.reduceBEq, Int.reduceNeg, decide_true, decide_false, Nat.le_max_left, Nat.le_max_right, ne_eq, not_true_eq_false, not_false_eq_true, Int.natCast_zero, gt_iff_lt, ge_iff_le, Int.reduceGT, Int.reduceGE, Bool.false_and, Bool.and_false, Bool.true_and, Bool.and_true, ir28_l0, e2, e3, e4, e5, h2, h4, h15, d1, w1, hr0, hb, c1, c2, ht]
      refine .next (by omega) ⟨zs ++ [(k : Int).tmod r], i, .ms 49 (ver + 1 + 1) 0 (zs.length + 1) (zs.length + 1), ⟨?_, ?_, ?_, ?_, ?_, ?_, hi0⟩, SlB.mk ?_ ?_ ?_, by omega, ?_, by simp [len], by omega, hm⟩ <;> simp -implicitDefEqProofs only [go_sem, ↓reduceIte, Nat.reduceEqDiff, Nat.reduceAdd, Nat.reduceSub, Nat.reduceMul, Nat.reduceLeDiff, Nat.reduceLT, Nat.reduceBEq, Nat.reduceBNe, reduceCtorEq, beq_self_eq_true, Int.toNat_natCast, List.length_map, List.length_nil, Int.reduceToNat, Int.reduceAdd, Int.reduceSub, Int.reduceMul, Int.reduceLT, Int.reduceLE, Int.reduceEq, Int.reduceBEq, Int.reduceNeg, decide_true, decide_false, Nat.le_max_left, Nat.le_max_right, ne_eq, not_true_eq_false, not_false_eq_true, Int.natCast_zero, gt_iff_lt, ge_iff_le, Int.reduceGT, Int.reduceGE, Bool.false_and, Bool.and_false, Bool.true_and, Bool.and_true, e2, e3, e4, e5, h2, h4, h15, w1, List.map_append, List.length_append]
  · have d1 : decide ((k : Int) < r) = false := by simpa using hlt
    cases v with
    | false =>
      simp -implicitDefEqProofs only [go_sem, ↓reduceIte, Nat.reduceEqDiff, Nat.reduceAdd, Nat.reduceSub, Nat.reduceMul, Nat.reduceLeDiff, Nat.reduceLT, Nat.reduceBEq, Nat.reduceBNe, reduceCtorEq, beq_self_eq_true, Int.toNat_natCast, List.length_map, List.length_nil, Int.reduceToNat, Int.reduceAdd, Int.reduceSub, Int.reduceMul, Int.reduceLT, Int.reduceLE, Int.reduceEq, Int.reduceBEq, Int.reduceNeg, decide_true, decide_false, Nat.le_max_left, Nat.le_max_right, ne_eq, not_true_eq_false, not_false_eq_true, Int.natCast_zero, gt_iff_lt, ge_iff_le, Int.reduceGT, Int.reduceGE, Bool.false_and, Bool.and_false, Bool.true_and, Bool.and_true, ir28_l0, e2, e3, e4, e5, h2, h4, h15, d1, w1, hr0, hF]
      refine .exit ⟨rfl, zs, i', zv, ⟨?_, ?_, ?_, ?_, ?_, ?_, by omega⟩, hz.keep ?_, by omega, by omega, by omega, rg⟩ <;> simp -implicitDefEqProofs only [go_sem, ↓reduceIte, Nat.reduceEqDiff, Nat.reduceAdd, Nat.reduceSub, Nat.reduceMul, Nat.reduceLeDiff, Nat.reduceLT, Nat.reduceBEq, Nat.reduceBNe, reduceCtorEq, beq_self_eq_true, Int.toNat_natCast, List.length_map, List.length_nil, Int.reduceToNat, Int.reduceAdd, Int.reduceSub, Int.reduceMul, Int.reduceLT, Int.reduceLE, Int.reduceEq, Int.reduceBEq, Int.reduceNeg, decide_true, decide_false, Nat.le_max_left, Nat.le_max_right, ne_eq, not_true_eq_false, not_false_eq_true, Int.natCast_zero, gt_iff_lt, ge_iff_le, Int.reduceGT, Int.reduceGE, Bool.false_and, Bool.and_false, Bool.true_and, Bool.and_true, e2, e3, e4, e5, h2, h4, h15, w1]
    | true =>
      by_cases hk6 : (k : Int) < 6
      · have d2 : decide ((k : Int) < 6) = true := by simpa using hk6
        rcases hz with ⟨hz, rfl⟩ | ⟨hz, ver, rfl, hb⟩
        · simp -implicitDefEqProofs only [go_sem, ↓reduceIte, Nat.reduceEqDiff, Nat.reduceAdd, Nat.reduceSub, Nat.reduceMul, Nat.reduceLeDiff, Nat.reduceLT, Nat.reduceBEq, Nat.reduceBNe, reduceCtorEq, beq_self_eq_true, Int.toNat_natCast, List.length_map, List.length_nil, Int.reduceToNat, Int.reduceAdd, Int.reduceSub, Int.reduceMul, Int.reduceLT, Int.reduceLE, Int.reduceEq, Int.reduceBEq, Int.reduceNeg, decide_true, decide_false, Nat.le_max_left, Nat.le_max_right, ne_eq, not_true_eq_false, not_false_eq_true, Int.natCast_zero, gt_iff_lt, ge_iff_le, Int.reduceGT, Int.reduceGE, Bool.false_and, Bool.and_false, Bool.true_and, Bool.and_true, ir28_l0, e2, e3, e4, e5, h2, h4, h15, d1, d2, w1, hr0, hF]
          refine .next (by omega) ⟨zs ++ [(k : Int).tmod r], i', .ms 49 ((hg H 49).ver + 1) 0 1 1, ⟨?_, ?_, ?_, ?_, ?_, ?_, by omega⟩, SlB.mk ?_ ?_ ?_, by omega, ?_, by simp [len], by omega, hm⟩ <;> simp -implicitDefEqProofs only [go_sem, ↓reduceIte, Nat.reduceEqDiff, Nat.reduceAdd, Nat.reduceSub, Nat.reduceMul, Nat.reduceLeDiff, Nat.reduceLT, Nat.reduceBEq, Nat.reduceBNe, reduceCtorEq, beq_self_eq_true, Int.toNat_natCast, List.length_map, List.length_nil, Int.reduceToNat, Int.reduceAdd, Int.reduceSub, Int.reduceMul, Int.reduceLT, Int.reduceLE, Int.reduceEq, Int.reduceBEq, Int.reduceNeg, decide_true, decide_false, Nat.le_max_left, Nat.le_max_right, ne_eq, not_true_eq_false, not_false_eq_true, Int.natCast_zero, gt_iff_lt, ge_iff_le, Int.reduceGT, Int.reduceGE, Bool.false_and, Bool.and_false, Bool.true_and, Bool.and_true, e2, e3, e4, e5, h2, h4, h15, w1, List.map_append, hz]
        · simp -implicitDefEqProofs only [go_sem, ↓reduceIte, Nat.reduceEqDiff, Nat.reduceAdd, Nat.reduceSub, Nat.reduceMul, Nat.reduceLeDiff, Nat.reduceLT, Nat.reduceBEq, Nat.reduceBNe, reduceCtorEq, beq_self_eq_true, Int.toNat_natCast, List.length_map, List.length_nil, Int.reduceToNat, Int.reduceAdd, Int.reduceSub, Int.reduceMul, Int.reduceLT, Int.reduceLE, Int.reduceEq, Int.reduceBEq, Int.reduceNeg, decide_true, decide_false, Nat.le_max_left, Nat.le_max_right, ne_eq, not_true_eq_false, not_false_eq_true, Int.natCast_zero, gt_iff_lt, ge_iff_le, Int.reduceGT, Int.reduceGE, Bool.false_and, Bool.and_false, Bool.true_and, Bool.and_true, ir28_l0, e2, e3, e4, e5, h2, h4, h15, d1, d2, w1, hr0, hb, c1, c2, ht, hF]
          refine .next (by omega) ⟨zs ++ [(k : Int).tmod r], i', .ms 49 (ver + 1 + 1) 0 (zs.length + 1) (zs.length + 1), ⟨?_, ?_, ?_, ?_, ?_, ?_, by omega⟩, SlB.mk ?_ ?_ ?_, by omega, ?_, by simp [len], by omega, hm⟩ <;> simp -implicitDefEqProofs only [go_sem, ↓reduceIte, Nat.reduceEqDiff, Nat.reduceAdd, Nat.reduceSub, Nat.reduceMul, Nat.reduceLeDiff, Nat.reduceLT, Nat.reduceBEq, Nat.reduceBNe, reduceCtorEq, beq_self_eq_true, Int.toNat_natCast, List.length_map, List.length_nil, Int.reduceToNat, Int.reduceAdd, Int.reduceSub, Int.reduceMul, Int.reduceLT, Int.reduceLE, Int.reduceEq, Int.reduceBEq, Int.reduceNeg, decide_true, decide_false, Nat.le_max_left, Nat.le_max_right, ne_eq, not_true_eq_false, not_false_eq_true, Int.natCast_zero, gt_iff_lt, ge_iff_le, Int.reduceGT, Int.reduceGE, Bool.false_and, Bool.and_false, Bool.true_and, Bool.and_true, e2, e3, e4, e5, h2, h4, h15, w1, List.map_append, List.length_append]
      · have d2 : decide ((k : Int) < 6) = false := by simpa using hk6
        simp -implicitDefEqProofs only [go_sem, ↓reduceIte, Nat.reduceEqDiff, Nat.reduceAdd, Nat.reduceSub, Nat.reduceMul, Nat.reduceLeDiff, Nat.reduceLT, Nat.reduceBEq, Nat.reduceBNe, reduceCtorEq, beq_self_eq_true, Int.toNat_natCast, List.length_map, List.length_nil, Int.reduceToNat, Int.reduceAdd, Int.reduceSub, Int.reduceMul, Int.reduceLT, Int.reduceLE, Int.reduceEq, Int.reduceBEq, Int.reduceNeg, decide_true, decide_false, Nat.le_max_left, Nat.le_max_right, ne_eq, not_true_eq_false, not_false_eq_true, Int.natCast_zero, gt_iff_lt, ge_iff_le, Int.reduceGT, Int.reduceGE, Bool.false_and, Bool.and_false, Bool.true_and, Bool.and_true, ir28_l0, e2, e3, e4, e5, h2, h4, h15, d1, d2, w1, hr0, hF]
        refine .exit ⟨rfl, zs, i', zv, ⟨?_, ?_, ?_, ?_, ?_, ?_, by omega⟩, hz.keep ?_, by omega, by omega, by omega, rg⟩ <;> simp -implicitDefEqProofs only [go_sem, ↓reduceIte, Nat.reduceEqDiff, Nat.reduceAdd, Nat.reduceSub, Nat.reduceMul, Nat.reduceLeDiff, Nat.reduceLT, Nat.reduceBEq, Nat.reduceBNe, reduceCtorEq, beq_self_eq_true, Int.toNat_natCast, List.length_map, List.length_nil, Int.reduceToNat, Int.reduceAdd, Int.reduceSub, Int.reduceMul, Int.reduceLT, Int.reduceLE, Int.reduceEq, Int.reduceBEq, Int.reduceNeg, decide_true, decide_false, Nat.le_max_left, Nat.le_max_right, ne_eq, not_true_eq_false, not_false_eq_true, Int.natCast_zero, gt_iff_lt, ge_iff_le, Int.reduceGT, Int.reduceGE, Bool.false_and, Bool.and_false, Bool.true_and, Bool.and_true, e2, e3, e4, e5, h2, h4, h15, w1]
abbrev nilV : DV := .lit (.slice none 0 0)
def L1 (L : List Int) (r bl le ba : Int) (zs : List Int) (k : Nat) (s : VSt) : Prop := ∃ (cs : List Cell) (i : Nat) (zv cv : DV), CS L s i r bl le ba zv cv nilV nilV nilV nilV ∧
  SlB s.H 49 1 (zs.map eI) zv ∧ SlB s.H 78 2 (cs.map eC) cv ∧ i ≤ 30 + 2 * k ∧ gt .bad s.E 6 = dI (k : Nat) ∧ cs.length = k ∧ k ≤ 7 ∧ ∀ c, c ∈ cs → 0 ≤ c.zone ∧ c.zone < zs.length ∧ 10 ≤ c.cap ∧ c.cap ≤ 40
def Q1 (L : List Int) (r bl le ba : Int) (zs : List Int) (e : Ex) (s : VSt) : Prop := e = .exit 2 ∧ ∃ (cs : List Cell) (i : Nat) (zv cv : DV), CS L s i r bl le ba zv cv nilV nilV nilV nilV ∧
  SlB s.H 49 1 (zs.map eI) zv ∧ SlB s.H 78 2 (cs.map eC) cv ∧ i ≤ 60 ∧ zs.length ≤ cs.length ∧ cs.length ≤ 7 ∧ ∀ c, c ∈ cs → 0 ≤ c.zone ∧ c.zone < zs.length ∧ 10 ≤ c.cap ∧ c.cap ≤ 40
theorem config_l1 (L : List Int) (hL : I64s L) (r bl le ba : Int) (zs : List Int) (hz0 : 1 ≤ zs.length) (hz6 : zs.length ≤ 6) : ∀ (k : Nat) s, L1 L r bl le ba zs k s → Ok (R PP shF 0 182 (.loop ir28_l1) s) (Q1 L r bl le ba zs) := by
  refine Ok_up 7 (L1 L r bl le ba zs) fun k s hI => ?_
  obtain ⟨cs, i, zv, cv, C, hz, hc, hi, e6, len, hk, rg⟩ := hI
  obtain ⟨v, i', hv1, hv2, hF⟩ := Yes_ex L i 2 hL (by have := C.hi; omega) (by omega) (by omega)
  obtain ⟨E, H⟩ := s
  obtain ⟨e2, e3, e4, h2, h4, h15, hi0⟩ := C
  simp only at e2 e3 e4 h2 h4 h15 e6 hz hc
  have w1 : IntKind.wrap .i64 ((k : Int) + 1) = ((k + 1 : Nat) : Int) := by rw [w64 (by omega) (by omega)]; rfl
  have hr0 : ¬ (zs.length : Int) = 0 := by omega
  have c1 : ¬ cs.length + 1 ≤ cs.length := by omega
  have c2 : (cs.length + 1) * 16 ≤ 140737488355328 ∧ cs.length ≤ 9223372036854775806 := by omega
  have ht : List.take cs.length (cs.map eC) = cs.map eC := List.take_of_length_le (by simp)
  rcases hz with ⟨hz, rfl⟩ | ⟨hz, verz, rfl, hbz⟩
  · exfalso
    have : zs = [] := by simpa using hz
    subst this; simp at hz0
  have hz : SlB H 49 1 (zs.map eI) (.ms 49 verz 0 (zs.map eI).length (zs.map eI).length) := .inr ⟨hz, verz, rfl, hbz⟩
  have hm : ∀ c : Int, 1 ≤ c → c ≤ 4 → ∀ x : Cell, x ∈ cs ++ [⟨(k : Int).tmod zs.length, c * 10⟩] → 0 ≤ x.zone ∧ x.zone < zs.length ∧ 10 ≤ x.cap ∧ x.cap ≤ 40 := by
    intro c hc1 hc2 x hx
    rcases List.mem_append.1 hx with hx | hx
    · exact rg x hx
    · simp at hx; subst hx
      have q1 : 0 ≤ (k : Int).tmod zs.length := Int.tmod_nonneg _ (by omega)
      have q2 : (k : Int).tmod zs.length < zs.length := Int.tmod_lt_of_pos _ (by omega)
      exact ⟨q1, q2, by simp only; omega, by simp only; omega⟩
  by_cases hlt : (k : Int) < zs.length
  · have d1 : decide ((k : Int) < zs.length) = true := by simpa using hlt
    obtain ⟨c, j, hc1, hc2, hj1, hj2, hG⟩ := Range_ex L i 1 4 hL (by omega) (by omega) (by omega) (by omega)
    have w2 : IntKind.wrap .i64 (c * 10) = c * 10 := w64 (by omega) (by omega)
    rcases hc with ⟨hc, rfl⟩ | ⟨hc, ver, rfl, hb⟩
    · simp -implicitDefEqProofs only [go_sem, ↓reduceIte, Nat.reduceEqDiff, Nat.reduceAdd, Nat.reduceSub, Nat.reduceMul, Nat.reduceLeDiff, Nat.reduceLT, Nat.reduceBEq, Nat.reduceBNe, reduceCtorEq, beq_self_eq_true, Int.toNat_natCast, List.length_map, List.length_nil, Int.reduceToNat, Int.reduceAdd, Int.reduceSub, Int.reduceMul, Int.reduceLT, Int.reduceLE, Int.reduceEq, Int.reduceBEq, Int.reduceNeg, decide_true, decide_false, Nat.le_max_left, Nat.le_max_right, ne_eq, not_true_eq_false, not_false_eq_true, Int.natCast_zero, gt_iff_lt, ge_iff_le, Int.reduceGT, Int.reduceGE, Bool.false_and, Bool.and_false, Bool.true_and, Bool.and_true, ir28_l1, e2, e3, e4, e6, h2, h4, h15, hbz, d1, w1, w2, hr0, hG]
      refine .next (by omega) ⟨cs ++ [⟨(k : Int).tmod zs.length, c * 10⟩], j, _, .ms 78 ((hg H 78).ver + 1) 0 1 1, ⟨?_, ?_, ?_, ?_, ?_, ?_, by omega⟩, hz.keep ?_, SlB.mk ?_ ?_ ?_, by omega, ?_, by simp [len], by omega, hm c hc1 hc2⟩ <;> simp -implicitDefEqProofs only [go_sem, ↓reduceIte, Nat.reduceEqDiff, Nat.reduceAdd, Nat.reduceSub, Nat.reduceMul, Nat.reduceLeDiff, Nat.reduceLT, Nat.reduceBEq, Nat.reduceBNe, reduceCtorEq, beq_self_eq_true, Int.toNat_natCast, List.length_map, List.length_nil, Int.reduceToNat, Int.reduceAdd, Int.reduceSub, Int.reduceMul, Int.reduceLT, Int.reduceLE, Int.reduceEq, Int.reduceBEq, Int.reduceNeg, decide_true, decide_false, Nat.le_max_left, Nat.le_max_right, ne_eq, not_true_eq_false, not_false_eq_true, Int.natCast_zero, gt_iff_lt, ge_iff_le, Int.reduceGT, Int.reduceGE, Bool.false_and, Bool.and_false, Bool.true_and, Bool.and_true, e2, e3, e4, e6, h2, h4, h15, w1, List.map_append, hc]
    · simp -implicitDefEqProofs only [go_sem, ↓reduceIte, Nat.reduceEqDiff, Nat.reduceAdd, Nat.reduceSub, Nat.reduceMul, Nat.reduceLeDiff, Nat.reduceLT, Nat.reduceBEq, Nat.reduceBNe, reduceCtorEq, beq_self_eq_true, Int.toNat_natCast, List.length_map, List.length_nil, Int.reduceToNat, Int.reduceAdd, Int.reduceSub, Int.reduceMul, Int.reduceLT, Int.reduceLE, Int.reduceEq, Int.reduceBEq, Int.reduceNeg, decide_true, decide_false, Nat.le_max_left, Nat.le_max_right, ne_eq, not_true_eq_false, not_false_eq_true, Int.natCast_zero, gt_iff_lt, ge_iff_le, Int.reduceGT, Int.reduceGE, Bool.false_and, Bool.and_false, Bool.true_and, Bool.and_true, ir28_l1, e2, e3, e4, e6, h2, h4, h15, hbz, d1, w1, w2, hr0, hG, hb, c1, c2, ht]
      refine .next (by omega) ⟨cs ++ [⟨(k : Int).tmod zs.length, c * 10⟩], j, _, .ms 78 (ver + 1 + 1) 0 (cs.length + 1) (cs.length + 1), ⟨?_, ?_, ?_, ?_, ?_, ?_, by omega⟩, hz.keep ?_, SlB.mk ?_ ?_ ?_, by omega, ?_, by simp [len], by omega, hm c hc1 hc2⟩ <;> simp -implicitDefEqProofs only [go_sem, ↓reduceIte, Nat.reduceEqDiff, Nat.reduceAdd, Nat.reduceSub, Nat.reduceMul, Nat.reduceLeDiff, Nat.reduceLT, Nat.reduceBEq, Nat.reduceBNe, reduceCtorEq, beq_self_eq_true, Int.toNat_natCast, List.length_map, List.length_nil, Int.reduceToNat, Int.reduceAdd, Int.reduceSub, Int.reduceMul, Int.reduceLT, Int.reduceLE, Int.reduceEq, Int.reduceBEq, Int.reduceNeg, decide_true, decide_false, Nat.le_max_left, Nat.le_max_right, ne_eq, not_true_eq_false, not_false_eq_true, Int.natCast_zero, gt_iff_lt, ge_iff_le, Int.reduceGT, Int.reduceGE, Bool.false_and, Bool.and_false, Bool.true_and, Bool.and_true, e2, e3, e4, e6, h2, h4, h15, w1, List.map_append, List.length_append]
  · have d1 : decide ((k : Int) < zs.length) = false := by simpa using hlt
    cases v with
    | false =>
      simp -implicitDefEqProofs only [go_sem, ↓reduceIte, Nat.reduceEqDiff, Nat.reduceAdd, Nat.reduceSub, Nat.reduceMul, Nat.reduceLeDiff, Nat.reduceLT, Nat.reduceBEq, Nat.reduceBNe, reduceCtorEq, beq_self_eq_true, Int.toNat_natCast, List.length_map, List.length_nil, Int.reduceToNat, Int.reduceAdd, Int.reduceSub, Int.reduceMul, Int.reduceLT, Int.reduceLE, Int.reduceEq, Int.reduceBEq, Int.reduceNeg, decide_true, decide_false, Nat.le_max_left, Nat.le_max_right, ne_eq, not_true_eq_false, not_false_eq_true, Int.natCast_zero, gt_iff_lt, ge_iff_le, Int.reduceGT, Int.reduceGE, Bool.false_and, Bool.and_false, Bool.true_and, Bool.and_true, ir28_l1, e2, e3, e4, e6, h2, h4, h15, hbz, d1, w1, hr0, hF]
      refine .exit ⟨rfl, cs, i', _, cv, ⟨?_, ?_, ?_, ?_, ?_, ?_, by omega⟩, hz.keep ?_, hc.keep ?_, by omega, by omega, by omega, rg⟩ <;> simp -implicitDefEqProofs only [go_sem, ↓reduceIte, Nat.reduceEqDiff, Nat.reduceAdd, Nat.reduceSub, Nat.reduceMul, Nat.reduceLeDiff, Nat.reduceLT, Nat.reduceBEq, Nat.reduceBNe, reduceCtorEq, beq_self_eq_true, Int.toNat_natCast, List.length_map, List.length_nil, Int.reduceToNat, Int.reduceAdd, Int.reduceSub, Int.reduceMul, Int.reduceLT, Int.reduceLE, Int.reduceEq, Int.reduceBEq, Int.reduceNeg, decide_true, decide_false, Nat.le_max_left, Nat.le_max_right, ne_eq, not_true_eq_false, not_false_eq_true, Int.natCast_zero, gt_iff_lt, ge_iff_le, Int.reduceGT, Int.reduceGE, Bool.false_and, Bool.and_false, Bool.true_and, Bool.and_true, e2, e3, e4, e6, h2, h4, h15, w1]
    | true =>
      by_cases hk6 : (k : Int) < 7
      · have d2 : decide ((k : Int) < 7) = true := by simpa using hk6
        obtain ⟨c, j, hc1, hc2, hj1, hj2, hG⟩ := Range_ex L i' 1 4 hL (by omega) (by omega) (by omega) (by omega)
        have w2 : IntKind.wrap .i64 (c * 10) = c * 10 := w64 (by omega) (by omega)
        rcases hc with ⟨hc, rfl⟩ | ⟨hc, ver, rfl, hb⟩
        · simp -implicitDefEqProofs only [go_sem, ↓reduceIte, Nat.reduceEqDiff, Nat.reduceAdd, Nat.reduceSub, Nat.reduceMul, Nat.reduceLeDiff, Nat.reduceLT, Nat.reduceBEq, Nat.reduceBNe, reduceCtorEq, beq_self_eq_true, Int.toNat_natCast, List.length_map, List.length_nil, Int.reduceToNat, Int.reduceAdd, Int.reduceSub, Int.reduceMul, Int.reduceLT, Int.reduceLE, Int.reduceEq, Int.reduceBEq, Int.reduceNeg, decide_true, decide_false, Nat.le_max_left, Nat.le_max_right, ne_eq, not_true_eq_false, not_false_eq_true, Int.natCast_zero, gt_iff_lt, ge_iff_le, Int.reduceGT, Int.reduceGE, Bool.false_and, Bool.and_false, Bool.true_and, Bool.and_true, ir28_l1, e2, e3, e4, e6, h2, h4, h15, hbz, d1, d2, w1, w2, hr0, hF, hG]
          refine .next (by omega) ⟨cs ++ [⟨(k : Int).tmod zs.length, c * 10⟩], j, _, .ms 78 ((hg H 78).ver + 1) 0 1 1, ⟨?_, ?_, ?_, ?_, ?_, ?_, by omega⟩, hz.keep ?_, SlB.mk ?_ ?_ ?_, by omega, ?_, by simp [len], by omega, hm c hc1 hc2⟩ <;> simp -implicitDefEqProofs only [go_sem, ↓reduceIte, Nat.reduceEqDiff, Nat.reduceAdd, Nat.reduceSub, Nat.reduceMul, Nat.reduceLeDiff, Nat.reduceLT, Nat.reduceBEq, Nat.reduceBNe, reduceCtorEq, beq_self_eq_true, Int.toNat_natCast, List.length_map, List.length_nil, Int.reduceToNat, Int.reduceAdd, Int.reduceSub, Int.reduceMul, Int.reduceLT, Int.reduceLE, Int.reduceEq, Int.reduceBEq, Int.reduceNeg, decide_true, decide_false, Nat.le_max_left, Nat.le_max_right, ne_eq, not_true_eq_false, not_false_eq_true, Int.natCast_zero, gt_iff_lt, ge_iff_le, Int.reduceGT, Int.reduceGE, Bool.false_and, Bool.and_false, Bool.true_and, Bool.and_true, e2, e3, e4, e6, h2, h4, h15, w1, List.map_append, hc]
        · simp -implicitDefEqProofs only [go_sem, ↓reduceIte, Nat.reduceEqDiff, Nat.reduceAdd, Nat.reduceSub, Nat.reduceMul, Nat.reduceLeDiff, Nat.reduceLT, Nat.reduceBEq, Nat.reduceBNe, reduceCtorEq, beq_self_eq_true, Int.toNat_natCast, List.length_map, List.length_nil, Int.reduceToNat, Int.reduceAdd, Int.reduceSub, Int.reduceMul, Int.reduceLT, Int.reduceLE, Int.reduceEq, Int.reduceBEq, Int.reduceNeg, decide_true, decide_false, Nat.le_max_left, Nat.le_max_right, ne_eq, not_true_eq_false, not_false_eq_true, Int.natCast_zero, gt_iff_lt, ge_iff_le, Int.reduceGT, Int.reduceGE, Bool.false_and, Bool.and_false, Bool.true_and, Bool.and_true, ir28_l1, e2, e3, e4, e6, h2, h4, h15, hbz, d1, d2, w1, w2, hr0, hF, hG, hb, c1, c2, ht]
          refine .next (by omega) ⟨cs ++ [⟨(k : Int).tmod zs.length, c * 10⟩], j, _, .ms 78 (ver + 1 + 1) 0 (cs.length + 1) (cs.length + 1), ⟨?_, ?_, ?_, ?_, ?_, ?_, by omega⟩, hz.keep ?_, SlB.mk ?_ ?_ ?_, by omega, ?_, by simp [len], by omega, hm c hc1 hc2⟩ <;> simp -implicitDefEqProofs only [go_sem, ↓reduceIte, Nat.reduceEqDiff, Nat.reduceAdd, Nat.reduceSub, Nat.reduceMul, Nat.reduceLeDiff, Nat.reduceLT, Nat.reduceBEq, Nat.reduceBNe, reduceCtorEq, beq_self_eq_true, Int.toNat_natCast, List.length_map, List.length_nil, Int.reduceToNat, Int.reduceAdd, Int.reduceSub, Int.reduceMul, Int.reduceLT, Int.reduceLE, Int.reduceEq, Int.reduceBEq, Int.reduceNeg, decide_true, decide_false, Nat.le_max_left, Nat.le_max_right, ne_eq, not_true_eq_false, not_false_eq_true, Int.natCast_zero, gt_iff_lt, ge_iff_le, Int.reduceGT, Int.reduceGE, Bool.false_and, Bool.and_false, Bool.true_and, Bool.and_true, e2, e3, e4, e6, h2, h4, h15, w1, List.map_append, List.length_append]
      · have d2 : decide ((k : Int) < 7) = false := by simpa using hk6
        simp -implicitDefEqProofs only [go_sem, ↓reduceIte, Nat.reduceEqDiff, Nat.reduceAdd, Nat.reduceSub, Nat.reduceMul, Nat.reduceLeDiff, Nat.reduceLT, Nat.reduceBEq, Nat.reduceBNe, reduceCtorEq, beq_self_eq_true, Int.toNat_natCast, List.length_map, List.length_nil, Int.reduceToNat, Int.reduceAdd, Int.reduceSub, Int.reduceMul, Int.reduceLT, Int.reduceLE, Int.reduceEq, Int.reduceBEq, Int.reduceNeg, decide_true, decide_false, Nat.le_max_left, Nat.le_max_right, ne_eq, not_true_eq_false, not_false_eq_true, Int.natCast_zero, gt_iff_lt, ge_iff_le, Int.reduceGT, Int.reduceGE, Bool.false_and, Bool.and_false, Bool.true_and, Bool.and_true, ir28_l1, e2, e3, e4, e6, h2, h4, h15, hbz, d1, d2, w1, hr0, hF]
        refine .exit ⟨rfl, cs, i', _, cv, ⟨?_, ?_, ?_, ?_, ?_, ?_, by omega⟩, hz.keep ?_, hc.keep ?_, by omega, by omega, by omega, rg⟩ <;> simp -implicitDefEqProofs only [go_sem, ↓reduceIte, Nat.reduceEqDiff, Nat.reduceAdd, Nat.reduceSub, Nat.reduceMul, Nat.reduceLeDiff, Nat.reduceLT, Nat.reduceBEq, Nat.reduceBNe, reduceCtorEq, beq_self_eq_true, Int.toNat_natCast, List.length_map, List.length_nil, Int.reduceToNat, Int.reduceAdd, Int.reduceSub, Int.reduceMul, Int.reduceLT, Int.reduceLE, Int.reduceEq, Int.reduceBEq, Int.reduceNeg, decide_true, decide_false, Nat.le_max_left, Nat.le_max_right, ne_eq, not_true_eq_false, not_false_eq_true, Int.natCast_zero, gt_iff_lt, ge_iff_le, Int.reduceGT, Int.reduceGE, Bool.false_and, Bool.and_false, Bool.true_and, Bool.and_true, e2, e3, e4, e6, h2, h4, h15, w1]
/-- All regions, as a set. -/
def allR (r : Int) : Int := 2 ^ r.toNat - 1
structure TenOk (r : Int) (t : Ten) : Prop where
  l0 : 1 ≤ t.load
  l1 : t.load ≤ 12
  s0 : 0 ≤ t.shadow
  s1 : t.shadow ≤ t.load
  p0 : 0 ≤ t.prio
  p1 : t.prio ≤ 3
  g0 : -1 ≤ t.lag
  g1 : t.lag ≤ 3
  a0 : 1 ≤ t.allowed
  a1 : t.allowed ≤ allR r
  u0 : 0 ≤ t.group
  u1 : t.group ≤ 2
/-- Zones and cells are there. -/
structure ZC (r : Int) (zs : List Int) (cs : List Cell) (H : VHeap) (zv cv : DV) : Prop where
  z : SlB H 49 1 (zs.map eI) zv
  c : SlB H 78 2 (cs.map eC) cv
theorem ZC.keep {r : Int} {zs : List Int} {cs : List Cell} {H H' : VHeap} {zv cv : DV} (h : ZC r zs cs H zv cv) (h1 : hg H' 49 = hg H 49) (h2 : hg H' 78 = hg H 78) : ZC r zs cs H' zv cv := ⟨h.z.keep h1, h.c.keep h2⟩
def L2 (L : List Int) (r bl le ba : Int) (zs : List Int) (cs : List Cell) (k : Nat) (s : VSt) : Prop := ∃ (ts : List Ten) (i : Nat) (zv cv tv : DV), CS L s i r bl le ba zv cv tv nilV nilV nilV ∧ ZC r zs cs s.H zv cv ∧
  SlB s.H 121 7 (ts.map eT) tv ∧ i + 10 * k ≤ 120 ∧ gt .bad s.E 7 = dI (k : Nat) ∧ ts.length + k ≤ 5 ∧ ∀ t, t ∈ ts → TenOk r t
def Q2 (L : List Int) (r bl le ba : Int) (zs : List Int) (cs : List Cell) (e : Ex) (s : VSt) : Prop := e = .exit 4 ∧ ∃ (ts : List Ten) (i : Nat) (zv cv tv : DV), CS L s i r bl le ba zv cv tv nilV nilV nilV ∧ ZC r zs cs s.H zv cv ∧
  SlB s.H 121 7 (ts.map eT) tv ∧ i ≤ 120 ∧ ts.length ≤ 5 ∧ ∀ t, t ∈ ts → TenOk r t
theorem config_l2 (L : List Int) (hL : I64s L) (r bl le ba : Int) (hr : 1 ≤ r ∧ r ≤ 3) (zs : List Int) (cs : List Cell) : ∀ (k : Nat) s, L2 L r bl le ba zs cs k s → Ok (R PP shF 0 182 (.loop ir28_l2) s) (Q2 L r bl le ba zs cs) := by
  refine Ok_dn (L2 L r bl le ba zs cs) fun k s hI => ?_
  obtain ⟨ts, i, zv, cv, tv, C, hzc, ht, hi, e7, len, rg⟩ := hI
  obtain ⟨E, H⟩ := s
  obtain ⟨e2, e3, e4, h2, h4, h15, hi0⟩ := C
  simp only at e2 e3 e4 h2 h4 h15 e7 hzc ht
  by_cases hk : k = 0
  · subst hk
    have d1 : decide (((0 : Nat) : Int) > 0) = false := by simp
    simp -implicitDefEqProofs only [go_sem, ↓reduceIte, Nat.reduceEqDiff, Nat.reduceAdd, Nat.reduceSub, Nat.reduceMul, Nat.reduceLeDiff, Nat.reduceLT, Nat.reduceBEq, Nat.reduceBNe, reduceCtorEq, beq_self_eq_true, Int.toNat_natCast, List.length_map, List.length_nil, Int.reduceToNat, Int.reduceAdd, Int.reduceSub, Int.reduceMul, Int.reduceLT, Int.reduceLE, Int.reduceEq, Int.reduceBEq, Int.reduceNeg, decide_true, decide_false, Nat.le_max_left, Nat.le_max_right, ne_eq, not_true_eq_false, not_false_eq_true, Int.natCast_zero, gt_iff_lt, ge_iff_le, Int.reduceGT, Int.reduceGE, Bool.false_and, Bool.and_false, Bool.true_and, Bool.and_true, ir28_l2, e7]
    refine .exit ⟨rfl, ts, i, zv, cv, tv, ⟨?_, ?_, ?_, ?_, ?_, ?_, by omega⟩, hzc.keep ?_ ?_, ht.keep ?_, by omega, by omega, rg⟩ <;> simp -implicitDefEqProofs only [go_sem, ↓reduceIte, Nat.reduceEqDiff, Nat.reduceAdd, Nat.reduceSub, Nat.reduceMul, Nat.reduceLeDiff, Nat.reduceLT, Nat.reduceBEq, Nat.reduceBNe, reduceCtorEq, beq_self_eq_true, Int.toNat_natCast, List.length_map, List.length_nil, Int.reduceToNat, Int.reduceAdd, Int.reduceSub, Int.reduceMul, Int.reduceLT, Int.reduceLE, Int.reduceEq, Int.reduceBEq, Int.reduceNeg, decide_true, decide_false, Nat.le_max_left, Nat.le_max_right, ne_eq, not_true_eq_false, not_false_eq_true, Int.natCast_zero, gt_iff_lt, ge_iff_le, Int.reduceGT, Int.reduceGE, Bool.false_and, Bool.and_false, Bool.true_and, Bool.and_true, e2, e3, e4, h2, h4, h15]
  · have d1 : decide (0 < (k : Int)) = true := by simp; omega
    have w1 : IntKind.wrap .i64 ((k : Int) - 1) = ((k - 1 : Nat) : Int) := by rw [w64 (by omega) (by omega)]; omega
    have hA : allR r = 1 ∨ allR r = 3 ∨ allR r = 7 := by
      obtain rfl | rfl | rfl : r = 1 ∨ r = 2 ∨ r = 3 := by omega
      · left; rfl
      · right; left; rfl
      · right; right; rfl
    obtain ⟨v1, i1, a1, b1, c1, d1', F1⟩ := Range_ex L i 1 12 hL (by omega) (by omega) (by omega) (by omega)
    obtain ⟨v2, i2, a2, b2, c2, d2', F2⟩ := Next_ex L i1 (v1 + 1) hL (by omega) (by omega) (by omega)
    obtain ⟨v3, i3, a3, b3, c3, d3', F3⟩ := Next_ex L i2 4 hL (by omega) (by omega) (by omega)
    obtain ⟨v4, i4, a4, b4, c4, d4', F4⟩ := Range_ex L i3 (-1) 3 hL (by omega) (by omega) (by omega) (by omega)
    obtain ⟨v5, i5, a5, b5, c5, d5', F5⟩ := Next_ex L i4 3 hL (by omega) (by omega) (by omega)
    obtain ⟨v6, i6, c6, d6', F6⟩ := Yes_ex L i5 4 hL (by omega) (by omega) (by omega)
    obtain ⟨v7, i7, c7, d7', F7⟩ := Yes_ex L i6 4 hL (by omega) (by omega) (by omega)
    obtain ⟨v8, i8, a8, b8, c8, d8', F8⟩ := Range_ex L i7 1 (allR r) hL (by omega) (by omega) (by omega) (by omega)
    have w2 : IntKind.wrap .i64 (v1 + 1) = v1 + 1 := w64 (by omega) (by omega)
    have cu : IntKind.wrap .u64 r = r := by simp [IntKind.wrap, IntKind.min, IntKind.max, IntKind.signed, IntKind.bits]; omega
    have nr : ¬ r < 0 := by omega
    have wA : IntKind.wrap .i64 (IntKind.wrap .i64 (1 * 2 ^ min r.toNat 64) - 1) = allR r := by
      obtain rfl | rfl | rfl : r = 1 ∨ r = 2 ∨ r = 3 := by omega
      · rfl
      · rfl
      · rfl
    have c1' : ¬ ts.length + 1 ≤ ts.length := by omega
    have c2' : (ts.length + 1) * 56 ≤ 140737488355328 ∧ ts.length ≤ 9223372036854775806 := by omega
    have ht' : List.take ts.length (ts.map eT) = ts.map eT := List.take_of_length_le (by simp)
    have hm : ∀ A : Int, 1 ≤ A → A ≤ allR r → ∀ t, t ∈ ts ++ [⟨v1, v2, v3, v4, A, v5, v6⟩] → TenOk r t := by
      intro A hA1 hA2 t hx
      rcases List.mem_append.1 hx with hx | hx
      · exact rg t hx
      · simp at hx; subst hx
        constructor <;> simp only <;> omega
    cases v7 with
    | false =>
      rcases ht with ⟨ht, rfl⟩ | ⟨ht, ver, rfl, hb⟩
      · simp -implicitDefEqProofs only [go_sem, ↓reduceIte, Nat.reduceEqDiff, Nat.reduceAdd, Nat.reduceSub, Nat.reduceMul, Nat.reduceLeDiff, Nat.reduceLT, Nat.reduceBEq, Nat.reduceBNe, reduceCtorEq, beq_self_eq_true, Int.toNat_natCast, List.length_map, List.length_nil, Int.reduceToNat, Int.reduceAdd, Int.reduceSub, Int.reduceMul, Int.reduceLT, Int.reduceLE, Int.reduceEq, Int.reduceBEq, Int.reduceNeg, decide_true, decide_false, Nat.le_max_left, Nat.le_max_right, ne_eq, not_true_eq_false, not_false_eq_true, Int.natCast_zero, gt_iff_lt, ge_iff_le, Int.reduceGT, Int.reduceGE, Bool.false_and, Bool.and_false, Bool.true_and, Bool.and_true, ir28_l2, e2, e3, e4, e7, h2, h4, h15, d1, w1, F1, F2, F3, F4, F5, F6, F7, w2, cu, nr, wA]
        refine .next (m := k - 1) (by omega) ⟨ts ++ [⟨v1, v2, v3, v4, allR r, v5, v6⟩], i7, _, _, .ms 121 ((hg H 121).ver + 1) 0 1 1, ⟨?_, ?_, ?_, ?_, ?_, ?_, by omega⟩, hzc.keep ?_ ?_, SlB.mk ?_ ?_ ?_, by omega, ?_, by simp; omega, hm _ (by omega) (by omega)⟩ <;> simp -implicitDefEqProofs only [go_sem, ↓reduceIte, Nat.reduceEqDiff, Nat.reduceAdd, Nat.reduceSub, Nat.reduceMul, Nat.reduceLeDiff, Nat.reduceLT, Nat.reduceBEq, Nat.reduceBNe, reduceCtorEq, beq_self_eq_true, Int.toNat_natCast, List.length_map, List.length_nil, Int.reduceToNat, Int.reduceAdd, Int.reduceSub, Int.reduceMul, Int.reduceLT, Int.reduceLE, Int.reduceEq, Int.reduceBEq, Int.reduceNeg, decide_true, decide_false, Nat.le_max_left, Nat.le_max_right, ne_eq, not_true_eq_false, not_false_eq_true, Int.natCast_zero, gt_iff_lt, ge_iff_le, Int.reduceGT, Int.reduceGE, Bool.false_and, Bool.and_false, Bool.true_and, Bool.and_true, e2, e3, e4, e7, h2, h4, h15, w1, List.map_append, ht]
      · simp -implicitDefEqProofs only [go_sem, ↓reduceIte, Nat.reduceEqDiff, Nat.reduceAdd, Nat.reduceSub, Nat.reduceMul, Nat.reduceLeDiff, Nat.reduceLT, Nat.reduceBEq, Nat.reduceBNe, reduceCtorEq, beq_self_eq_true, Int.toNat_natCast, List.length_map, List.length_nil, Int.reduceToNat, Int.reduceAdd, Int.reduceSub, Int.reduceMul, Int.reduceLT, Int.reduceLE, Int.reduceEq, Int.reduceBEq, Int.reduceNeg, decide_true, decide_false, Nat.le_max_left, Nat.le_max_right, ne_eq, not_true_eq_false, not_false_eq_true, Int.natCast_zero, gt_iff_lt, ge_iff_le, Int.reduceGT, Int.reduceGE, Bool.false_and, Bool.and_false, Bool.true_and, Bool.and_true, ir28_l2, e2, e3, e4, e7, h2, h4, h15, d1, w1, F1, F2, F3, F4, F5, F6, F7, w2, cu, nr, wA, hb, c1', c2', ht']
        refine .next (m := k - 1) (by omega) ⟨ts ++ [⟨v1, v2, v3, v4, allR r, v5, v6⟩], i7, _, _, .ms 121 (ver + 1 + 1) 0 (ts.length + 1) (ts.length + 1), ⟨?_, ?_, ?_, ?_, ?_, ?_, by omega⟩, hzc.keep ?_ ?_, SlB.mk ?_ ?_ ?_, by omega, ?_, by simp; omega, hm _ (by omega) (by omega)⟩ <;> simp -implicitDefEqProofs only [go_sem, ↓reduceIte, Nat.reduceEqDiff, Nat.reduceAdd, Nat.reduceSub, Nat.reduceMul, Nat.reduceLeDiff, Nat.reduceLT, Nat.reduceBEq, Nat.reduceBNe, reduceCtorEq, beq_self_eq_true, Int.toNat_natCast, List.length_map, List.length_nil, Int.reduceToNat, Int.reduceAdd, Int.reduceSub, Int.reduceMul, Int.reduceLT, Int.reduceLE, Int.reduceEq, Int.reduceBEq, Int.reduceNeg, decide_true, decide_false, Nat.le_max_left, Nat.le_max_right, ne_eq, not_true_eq_false, not_false_eq_true, Int.natCast_zero, gt_iff_lt, ge_iff_le, Int.reduceGT, Int.reduceGE, Bool.false_and, Bool.and_false, Bool.true_and, Bool.and_true, e2, e3, e4, e7, h2, h4, h15, w1, List.map_append, List.length_append]
    | true =>
      rcases ht with ⟨ht, rfl⟩ | ⟨ht, ver, rfl, hb⟩
      · simp -implicitDefEqProofs only [go_sem, ↓reduceIte, Nat.reduceEqDiff, Nat.reduceAdd, Nat.reduceSub, Nat.reduceMul, Nat.reduceLeDiff, Nat.reduceLT, Nat.reduceBEq, Nat.reduceBNe, reduceCtorEq, beq_self_eq_true, Int.toNat_natCast, List.length_map, List.length_nil, Int.reduceToNat, Int.reduceAdd, Int.reduceSub, Int.reduceMul, Int.reduceLT, Int.reduceLE, Int.reduceEq, Int.reduceBEq, Int.reduceNeg, decide_true, decide_false, Nat.le_max_left, Nat.le_max_right, ne_eq, not_true_eq_false, not_false_eq_true, Int.natCast_zero, gt_iff_lt, ge_iff_le, Int.reduceGT, Int.reduceGE, Bool.false_and, Bool.and_false, Bool.true_and, Bool.and_true, ir28_l2, e2, e3, e4, e7, h2, h4, h15, d1, w1, F1, F2, F3, F4, F5, F6, F7, F8, w2, cu, nr, wA]
        refine .next (m := k - 1) (by omega) ⟨ts ++ [⟨v1, v2, v3, v4, v8, v5, v6⟩], i8, _, _, .ms 121 ((hg H 121).ver + 1) 0 1 1, ⟨?_, ?_, ?_, ?_, ?_, ?_, by omega⟩, hzc.keep ?_ ?_, SlB.mk ?_ ?_ ?_, by omega, ?_, by simp; omega, hm _ (by omega) (by omega)⟩ <;> simp -implicitDefEqProofs only [go_sem, ↓reduceIte, Nat.reduceEqDiff, Nat.reduceAdd, Nat.reduceSub, Nat.reduceMul, Nat.reduceLeDiff, Nat.reduceLT, Nat.reduceBEq, Nat.reduceBNe, reduceCtorEq, beq_self_eq_true, Int.toNat_natCast, List.length_map, List.length_nil, Int.reduceToNat, Int.reduceAdd, Int.reduceSub, Int.reduceMul, Int.reduceLT, Int.reduceLE, Int.reduceEq, Int.reduceBEq, Int.reduceNeg, decide_true, decide_false, Nat.le_max_left, Nat.le_max_right, ne_eq, not_true_eq_false, not_false_eq_true, Int.natCast_zero, gt_iff_lt, ge_iff_le, Int.reduceGT, Int.reduceGE, Bool.false_and, Bool.and_false, Bool.true_and, Bool.and_true, e2, e3, e4, e7, h2, h4, h15, w1, List.map_append, ht]
      · simp -implicitDefEqProofs only [go_sem, ↓reduceIte, Nat.reduceEqDiff, Nat.reduceAdd, Nat.reduceSub, Nat.reduceMul, Nat.reduceLeDiff, Nat.reduceLT, Nat.reduceBEq, Nat.reduceBNe, reduceCtorEq, beq_self_eq_true, Int.toNat_natCast, List.length_map, List.length_nil, Int.reduceToNat, Int.reduceAdd, Int.reduceSub, Int.reduceMul, Int.reduceLT, Int.reduceLE, Int.reduceEq, Int.reduceBEq, Int.reduceNeg, decide_true, decide_false, Nat.le_max_left, Nat.le_max_right, ne_eq, not_true_eq_false, not_false_eq_true, Int.natCast_zero, gt_iff_lt, ge_iff_le, Int.reduceGT, Int.reduceGE, Bool.false_and, Bool.and_false, Bool.true_and, Bool.and_true, ir28_l2, e2, e3, e4, e7, h2, h4, h15, d1, w1, F1, F2, F3, F4, F5, F6, F7, F8, w2, cu, nr, wA, hb, c1', c2', ht']
        refine .next (m := k - 1) (by omega) ⟨ts ++ [⟨v1, v2, v3, v4, v8, v5, v6⟩], i8, _, _, .ms 121 (ver + 1 + 1) 0 (ts.length + 1) (ts.length + 1), ⟨?_, ?_, ?_, ?_, ?_, ?_, by omega⟩, hzc.keep ?_ ?_, SlB.mk ?_ ?_ ?_, by omega, ?_, by simp; omega, hm _ (by omega) (by omega)⟩ <;> simp -implicitDefEqProofs only [go_sem, ↓reduceIte, Nat.reduceEqDiff, Nat.reduceAdd, Nat.reduceSub, Nat.reduceMul, Nat.reduceLeDiff, Nat.reduceLT, Nat.reduceBEq, Nat.reduceBNe, reduceCtorEq, beq_self_eq_true, Int.toNat_natCast, List.length_map, List.length_nil, Int.reduceToNat, Int.reduceAdd, Int.reduceSub, Int.reduceMul, Int.reduceLT, Int.reduceLE, Int.reduceEq, Int.reduceBEq, Int.reduceNeg, decide_true, decide_false, Nat.le_max_left, Nat.le_max_right, ne_eq, not_true_eq_false, not_false_eq_true, Int.natCast_zero, gt_iff_lt, ge_iff_le, Int.reduceGT, Int.reduceGE, Bool.false_and, Bool.and_false, Bool.true_and, Bool.and_true, e2, e3, e4, e7, h2, h4, h15, w1, List.map_append, List.length_append]
/-- Zones, cells and tenants are there. -/
structure ZT (r : Int) (zs : List Int) (cs : List Cell) (ts : List Ten) (H : VHeap) (zv cv tv : DV) : Prop where
  z : SlB H 49 1 (zs.map eI) zv
  c : SlB H 78 2 (cs.map eC) cv
  t : SlB H 121 7 (ts.map eT) tv
theorem ZT.keep {r : Int} {zs : List Int} {cs : List Cell} {ts : List Ten} {H H' : VHeap} {zv cv tv : DV} (h : ZT r zs cs ts H zv cv tv) (h1 : hg H' 49 = hg H 49) (h2 : hg H' 78 = hg H 78) (h3 : hg H' 121 = hg H 121) : ZT r zs cs ts H' zv cv tv := ⟨h.z.keep h1, h.c.keep h2, h.t.keep h3⟩
structure VerOk (v : Ver) : Prop where
  l0 : 0 ≤ v.low
  l1 : v.low ≤ 1
  h0 : v.low ≤ v.high
  h1 : v.high ≤ v.low + 2
/-- The versions lie in one of two blocks. -/
def SlV (H : VHeap) (vs : List Ver) (v : DV) : Prop := vs ≠ [] ∧ ∃ b ver, (b = 126 ∨ b = 145) ∧ v = .ms b ver 0 (vs.map eV).length (vs.map eV).length ∧ hg H b = ⟨ver, 2, true, vs.map eV⟩
theorem SlV.keep {H H' : VHeap} {vs : List Ver} {v : DV} (h : SlV H vs v) (h1 : hg H' 126 = hg H 126) (h2 : hg H' 145 = hg H 145) : SlV H' vs v := by
  obtain ⟨h0, b, ver, hb, hv, hh⟩ := h
  refine ⟨h0, b, ver, hb, hv, ?_⟩
  rcases hb with rfl | rfl
  · rw [h1]; exact hh
  · rw [h2]; exact hh
def L3 (L : List Int) (r bl le ba : Int) (zs : List Int) (cs : List Cell) (ts : List Ten) (k : Nat) (s : VSt) : Prop := ∃ (vs : List Ver) (i : Nat) (zv cv tv vv : DV), CS L s i r bl le ba zv cv tv vv nilV nilV ∧ ZT r zs cs ts s.H zv cv tv ∧
  SlV s.H vs vv ∧ i + 10 * k ≤ 180 ∧ gt .bad s.E 10 = dI (k : Nat) ∧ vs.length + k ≤ 3 ∧ (∀ v, v ∈ vs → VerOk v) ∧ ∀ v, vs.head? = some v → v.low = 0
def Q3 (L : List Int) (r bl le ba : Int) (zs : List Int) (cs : List Cell) (ts : List Ten) (e : Ex) (s : VSt) : Prop := e = .exit 6 ∧ ∃ (vs : List Ver) (i : Nat) (zv cv tv vv : DV), CS L s i r bl le ba zv cv tv vv nilV nilV ∧ ZT r zs cs ts s.H zv cv tv ∧
  SlV s.H vs vv ∧ i ≤ 180 ∧ vs.length ≤ 3 ∧ (∀ v, v ∈ vs → VerOk v) ∧ ∀ v, vs.head? = some v → v.low = 0
theorem config_l3 (L : List Int) (hL : I64s L) (r bl le ba : Int) (zs : List Int) (cs : List Cell) (ts : List Ten) : ∀ (k : Nat) s, L3 L r bl le ba zs cs ts k s → Ok (R PP shF 0 182 (.loop ir28_l3) s) (Q3 L r bl le ba zs cs ts) := by
  refine Ok_dn (L3 L r bl le ba zs cs ts) fun k s hI => ?_
  obtain ⟨vs, i, zv, cv, tv, vv, C, hzc, ht, hi, e7, len, rg, hd⟩ := hI
  obtain ⟨E, H⟩ := s
  obtain ⟨e2, e3, e4, h2, h4, h15, hi0⟩ := C
  simp only at e2 e3 e4 h2 h4 h15 e7 hzc ht
  by_cases hk : k = 0
  · subst hk
    simp -implicitDefEqProofs only [go_sem, ↓reduceIte, Nat.reduceEqDiff, Nat.reduceAdd, Nat.reduceSub, Nat.reduceMul, Nat.reduceLeDiff, Nat.reduceLT, Nat.reduceBEq, Nat.reduceBNe, reduceCtorEq, beq_self_eq_true, Int.toNat_natCast, List.length_map, List.length_nil, Int.reduceToNat, Int.reduceAdd, Int.reduceSub, Int.reduceMul, Int.reduceLT, Int.reduceLE, Int.reduceEq, Int.reduceBEq, Int.reduceNeg, decide_true, decide_false, Nat.le_max_left, Nat.le_max_right, ne_eq, not_true_eq_false, not_false_eq_true, Int.natCast_zero, gt_iff_lt, ge_iff_le, Int.reduceGT, Int.reduceGE, Bool.false_and, Bool.and_false, Bool.true_and, Bool.and_true, ir28_l3, e7]
    refine .exit ⟨rfl, vs, i, zv, cv, tv, vv, ⟨?_, ?_, ?_, ?_, ?_, ?_, by omega⟩, hzc.keep ?_ ?_ ?_, ht.keep ?_ ?_, by omega, by omega, rg, hd⟩ <;> simp -implicitDefEqProofs only [go_sem, ↓reduceIte, Nat.reduceEqDiff, Nat.reduceAdd, Nat.reduceSub, Nat.reduceMul, Nat.reduceLeDiff, Nat.reduceLT, Nat.reduceBEq, Nat.reduceBNe, reduceCtorEq, beq_self_eq_true, Int.toNat_natCast, List.length_map, List.length_nil, Int.reduceToNat, Int.reduceAdd, Int.reduceSub, Int.reduceMul, Int.reduceLT, Int.reduceLE, Int.reduceEq, Int.reduceBEq, Int.reduceNeg, decide_true, decide_false, Nat.le_max_left, Nat.le_max_right, ne_eq, not_true_eq_false, not_false_eq_true, Int.natCast_zero, gt_iff_lt, ge_iff_le, Int.reduceGT, Int.reduceGE, Bool.false_and, Bool.and_false, Bool.true_and, Bool.and_true, e2, e3, e4, h2, h4, h15]
  · have d1 : decide (0 < (k : Int)) = true := by simp; omega
    have w1 : IntKind.wrap .i64 ((k : Int) - 1) = ((k - 1 : Nat) : Int) := by rw [w64 (by omega) (by omega)]; omega
    obtain ⟨v1, i1, a1, b1, c1, d1', F1⟩ := Next_ex L i 2 hL (by omega) (by omega) (by omega)
    obtain ⟨v2, i2, a2, b2, c2, d2', F2⟩ := Next_ex L i1 3 hL (by omega) (by omega) (by omega)
    have w2 : IntKind.wrap .i64 (v1 + v2) = v1 + v2 := w64 (by omega) (by omega)
    have c1' : ¬ vs.length + 1 ≤ vs.length := by omega
    have c2' : (vs.length + 1) * 16 ≤ 140737488355328 ∧ vs.length ≤ 9223372036854775806 := by omega
    have ht' : List.take vs.length (vs.map eV) = vs.map eV := List.take_of_length_le (by simp)
    obtain ⟨h0, b, ver, hb, rfl, hh⟩ := ht
    have hm : ∀ t, t ∈ vs ++ [⟨v1, v1 + v2⟩] → VerOk t := by
      intro t hx
      rcases List.mem_append.1 hx with hx | hx
      · exact rg t hx
      · simp at hx; subst hx
        constructor <;> simp only <;> omega
    have hd' : ∀ v : Ver, (vs ++ [(⟨v1, v1 + v2⟩ : Ver)]).head? = some v → v.low = 0 := by
      intro v hv
      refine hd v ?_
      cases vs with
      | nil => exact absurd rfl h0
      | cons a l => exact hv
    have hne : vs ++ [(⟨v1, v1 + v2⟩ : Ver)] ≠ [] := by simp
    rcases hb with rfl | rfl
    · simp -implicitDefEqProofs only [go_sem, ↓reduceIte, Nat.reduceEqDiff, Nat.reduceAdd, Nat.reduceSub, Nat.reduceMul, Nat.reduceLeDiff, Nat.reduceLT, Nat.reduceBEq, Nat.reduceBNe, reduceCtorEq, beq_self_eq_true, Int.toNat_natCast, List.length_map, List.length_nil, Int.reduceToNat, Int.reduceAdd, Int.reduceSub, Int.reduceMul, Int.reduceLT, Int.reduceLE, Int.reduceEq, Int.reduceBEq, Int.reduceNeg, decide_true, decide_false, Nat.le_max_left, Nat.le_max_right, ne_eq, not_true_eq_false, not_false_eq_true, Int.natCast_zero, gt_iff_lt, ge_iff_le, Int.reduceGT, Int.reduceGE, Bool.false_and, Bool.and_false, Bool.true_and, Bool.and_true, ir28_l3, e2, e3, e4, e7, h2, h4, h15, d1, w1, F1, F2, w2, hh, c1', c2', ht']
      refine .next (m := k - 1) (by omega) ⟨vs ++ [⟨v1, v1 + v2⟩], i2, _, _, _, .ms 145 ((hg H 145).ver + 1) 0 (vs.length + 1) (vs.length + 1), ⟨?_, ?_, ?_, ?_, ?_, ?_, by omega⟩, hzc.keep ?_ ?_ ?_, ⟨hne, 145, (hg H 145).ver + 1, .inr rfl, ?_, ?_⟩, by omega, ?_, by simp; omega, hm, hd'⟩ <;> simp -implicitDefEqProofs only [go_sem, ↓reduceIte, Nat.reduceEqDiff, Nat.reduceAdd, Nat.reduceSub, Nat.reduceMul, Nat.reduceLeDiff, Nat.reduceLT, Nat.reduceBEq, Nat.reduceBNe, reduceCtorEq, beq_self_eq_true, Int.toNat_natCast, List.length_map, List.length_nil, Int.reduceToNat, Int.reduceAdd, Int.reduceSub, Int.reduceMul, Int.reduceLT, Int.reduceLE, Int.reduceEq, Int.reduceBEq, Int.reduceNeg, decide_true, decide_false, Nat.le_max_left, Nat.le_max_right, ne_eq, not_true_eq_false, not_false_eq_true, Int.natCast_zero, gt_iff_lt, ge_iff_le, Int.reduceGT, Int.reduceGE, Bool.false_and, Bool.and_false, Bool.true_and, Bool.and_true, e2, e3, e4, e7, h2, h4, h15, w1, List.map_append, List.length_append]
    · simp -implicitDefEqProofs only [go_sem, ↓reduceIte, Nat.reduceEqDiff, Nat.reduceAdd, Nat.reduceSub, Nat.reduceMul, Nat.reduceLeDiff, Nat.reduceLT, Nat.reduceBEq, Nat.reduceBNe, reduceCtorEq, beq_self_eq_true, Int.toNat_natCast, List.length_map, List.length_nil, Int.reduceToNat, Int.reduceAdd, Int.reduceSub, Int.reduceMul, Int.reduceLT, Int.reduceLE, Int.reduceEq, Int.reduceBEq, Int.reduceNeg, decide_true, decide_false, Nat.le_max_left, Nat.le_max_right, ne_eq, not_true_eq_false, not_false_eq_true, Int.natCast_zero, gt_iff_lt, ge_iff_le, Int.reduceGT, Int.reduceGE, Bool.false_and, Bool.and_false, Bool.true_and, Bool.and_true, ir28_l3, e2, e3, e4, e7, h2, h4, h15, d1, w1, F1, F2, w2, hh, c1', c2', ht']
      refine .next (m := k - 1) (by omega) ⟨vs ++ [⟨v1, v1 + v2⟩], i2, _, _, _, .ms 145 (ver + 1 + 1) 0 (vs.length + 1) (vs.length + 1), ⟨?_, ?_, ?_, ?_, ?_, ?_, by omega⟩, hzc.keep ?_ ?_ ?_, ⟨hne, 145, ver + 1 + 1, .inr rfl, ?_, ?_⟩, by omega, ?_, by simp; omega, hm, hd'⟩ <;> simp -implicitDefEqProofs only [go_sem, ↓reduceIte, Nat.reduceEqDiff, Nat.reduceAdd, Nat.reduceSub, Nat.reduceMul, Nat.reduceLeDiff, Nat.reduceLT, Nat.reduceBEq, Nat.reduceBNe, reduceCtorEq, beq_self_eq_true, Int.toNat_natCast, List.length_map, List.length_nil, Int.reduceToNat, Int.reduceAdd, Int.reduceSub, Int.reduceMul, Int.reduceLT, Int.reduceLE, Int.reduceEq, Int.reduceBEq, Int.reduceNeg, decide_true, decide_false, Nat.le_max_left, Nat.le_max_right, ne_eq, not_true_eq_false, not_false_eq_true, Int.natCast_zero, gt_iff_lt, ge_iff_le, Int.reduceGT, Int.reduceGE, Bool.false_and, Bool.and_false, Bool.true_and, Bool.and_true, e2, e3, e4, e7, h2, h4, h15, w1, List.map_append, List.length_append]
/-- Zones, cells, tenants, versions (and replicas) are there. -/
structure ZV (r : Int) (zs : List Int) (cs : List Cell) (ts : List Ten) (vs : List Ver) (rs : List Int) (H : VHeap) (zv cv tv vv rv : DV) : Prop where
  z : SlB H 49 1 (zs.map eI) zv
  c : SlB H 78 2 (cs.map eC) cv
  t : SlB H 121 7 (ts.map eT) tv
  v : SlV H vs vv
  r : SlB H 163 1 (rs.map eI) rv
theorem ZV.keep {r : Int} {zs : List Int} {cs : List Cell} {ts : List Ten} {vs : List Ver} {rs : List Int} {H H' : VHeap} {zv cv tv vv rv : DV} (h : ZV r zs cs ts vs rs H zv cv tv vv rv) (h1 : hg H' 49 = hg H 49) (h2 : hg H' 78 = hg H 78) (h3 : hg H' 121 = hg H 121) (h4 : hg H' 126 = hg H 126) (h5 : hg H' 145 = hg H 145) (h6 : hg H' 163 = hg H 163) : ZV r zs cs ts vs rs H' zv cv tv vv rv := ⟨h.z.keep h1, h.c.keep h2, h.t.keep h3, h.v.keep h4 h5, h.r.keep h6⟩
structure ZR (r : Int) (zs : List Int) (cs : List Cell) (ts : List Ten) (vs : List Ver) (H : VHeap) (zv cv tv vv : DV) : Prop where
  z : SlB H 49 1 (zs.map eI) zv
  c : SlB H 78 2 (cs.map eC) cv
  t : SlB H 121 7 (ts.map eT) tv
  v : SlV H vs vv
theorem ZR.keep {r : Int} {zs : List Int} {cs : List Cell} {ts : List Ten} {vs : List Ver} {H H' : VHeap} {zv cv tv vv : DV} (h : ZR r zs cs ts vs H zv cv tv vv) (h1 : hg H' 49 = hg H 49) (h2 : hg H' 78 = hg H 78) (h3 : hg H' 121 = hg H 121) (h4 : hg H' 126 = hg H 126) (h5 : hg H' 145 = hg H 145) : ZR r zs cs ts vs H' zv cv tv vv := ⟨h.z.keep h1, h.c.keep h2, h.t.keep h3, h.v.keep h4 h5⟩
def L4 (L : List Int) (r bl le ba : Int) (zs : List Int) (cs : List Cell) (ts : List Ten) (vs : List Ver) (rs : List Int) (N : Nat) (k : Nat) (s : VSt) : Prop := ∃ (os : List Int) (i : Nat) (zv cv tv vv rv ov : DV), CS L s i r bl le ba zv cv tv vv rv nilV ∧ ZR r zs cs ts vs s.H zv cv tv vv ∧
  SlB s.H 163 1 (os.map eI) rv ∧ i + 10 * k ≤ 240 ∧ gt .bad s.E 12 = dI (k : Nat) ∧ os.length + k = N ∧ ∀ z, z ∈ os → 0 ≤ z ∧ z < zs.length
def Q4 (L : List Int) (r bl le ba : Int) (zs : List Int) (cs : List Cell) (ts : List Ten) (vs : List Ver) (rs : List Int) (N : Nat) (e : Ex) (s : VSt) : Prop := e = .exit 8 ∧ ∃ (os : List Int) (i : Nat) (zv cv tv vv rv ov : DV), CS L s i r bl le ba zv cv tv vv rv nilV ∧ ZR r zs cs ts vs s.H zv cv tv vv ∧
  SlB s.H 163 1 (os.map eI) rv ∧ i ≤ 240 ∧ os.length = N ∧ ∀ z, z ∈ os → 0 ≤ z ∧ z < zs.length
theorem config_l4 (L : List Int) (hL : I64s L) (r bl le ba : Int) (zs : List Int) (hz0 : 1 ≤ zs.length) (hz6 : zs.length ≤ 6) (cs : List Cell) (ts : List Ten) (vs : List Ver) (rs : List Int) (N : Nat) (hN : N ≤ 4) : ∀ (k : Nat) s, L4 L r bl le ba zs cs ts vs rs N k s → Ok (R PP shF 0 182 (.loop ir28_l4) s) (Q4 L r bl le ba zs cs ts vs rs N) := by
  refine Ok_dn (L4 L r bl le ba zs cs ts vs rs N) fun k s hI => ?_
  obtain ⟨os, i, zv, cv, tv, vv, rv, ov, C, hzc, ht, hi, e7, len, rg⟩ := hI
  obtain ⟨E, H⟩ := s
  obtain ⟨e2, e3, e4, h2, h4, h15, hi0⟩ := C
  simp only at e2 e3 e4 h2 h4 h15 e7 hzc ht
  by_cases hk : k = 0
  · subst hk
    simp -implicitDefEqProofs only [go_sem, ↓reduceIte, Nat.reduceEqDiff, Nat.reduceAdd, Nat.reduceSub, Nat.reduceMul, Nat.reduceLeDiff, Nat.reduceLT, Nat.reduceBEq, Nat.reduceBNe, reduceCtorEq, beq_self_eq_true, Int.toNat_natCast, List.length_map, List.length_nil, Int.reduceToNat, Int.reduceAdd, Int.reduceSub, Int.reduceMul, Int.reduceLT, Int.reduceLE, Int.reduceEq, Int.reduceBEq, Int.reduceNeg, decide_true, decide_false, Nat.le_max_left, Nat.le_max_right, ne_eq, not_true_eq_false, not_false_eq_true, Int.natCast_zero, gt_iff_lt, ge_iff_le, Int.reduceGT, Int.reduceGE, Bool.false_and, Bool.and_false, Bool.true_and, Bool.and_true, ir28_l4, e7]
    refine .exit ⟨rfl, os, i, zv, cv, tv, vv, rv, ov, ⟨?_, ?_, ?_, ?_, ?_, ?_, by omega⟩, hzc.keep ?_ ?_ ?_ ?_ ?_, ht.keep ?_, by omega, by omega, rg⟩ <;> simp -implicitDefEqProofs only [go_sem, ↓reduceIte, Nat.reduceEqDiff, Nat.reduceAdd, Nat.reduceSub, Nat.reduceMul, Nat.reduceLeDiff, Nat.reduceLT, Nat.reduceBEq, Nat.reduceBNe, reduceCtorEq, beq_self_eq_true, Int.toNat_natCast, List.length_map, List.length_nil, Int.reduceToNat, Int.reduceAdd, Int.reduceSub, Int.reduceMul, Int.reduceLT, Int.reduceLE, Int.reduceEq, Int.reduceBEq, Int.reduceNeg, decide_true, decide_false, Nat.le_max_left, Nat.le_max_right, ne_eq, not_true_eq_false, not_false_eq_true, Int.natCast_zero, gt_iff_lt, ge_iff_le, Int.reduceGT, Int.reduceGE, Bool.false_and, Bool.and_false, Bool.true_and, Bool.and_true, e2, e3, e4, h2, h4, h15]
  · have d1 : decide (0 < (k : Int)) = true := by simp; omega
    have w1 : IntKind.wrap .i64 ((k : Int) - 1) = ((k - 1 : Nat) : Int) := by rw [w64 (by omega) (by omega)]; omega
    obtain ⟨v1, i1, a1, b1, c1, d1', F1⟩ := Next_ex L i zs.length hL (by omega) (by omega) (by omega)
    have c1' : ¬ os.length + 1 ≤ os.length := by omega
    have c2' : (os.length + 1) * 8 ≤ 140737488355328 ∧ os.length ≤ 9223372036854775806 := by omega
    have ht' : List.take os.length (os.map eI) = os.map eI := List.take_of_length_le (by simp)
    have hz := hzc.z
    rcases hz with ⟨hz, rfl⟩ | ⟨hz, verz, rfl, hbz⟩
    · exfalso
      have : zs = [] := by simpa using hz
      subst this; simp at hz0
    have hm : ∀ t, t ∈ os ++ [v1] → 0 ≤ t ∧ t < zs.length := by
      intro t hx
      rcases List.mem_append.1 hx with hx | hx
      · exact rg t hx
      · simp at hx; subst hx; omega
    rcases ht with ⟨ht, rfl⟩ | ⟨ht, ver, rfl, hb⟩
    · simp -implicitDefEqProofs only [go_sem, ↓reduceIte, Nat.reduceEqDiff, Nat.reduceAdd, Nat.reduceSub, Nat.reduceMul, Nat.reduceLeDiff, Nat.reduceLT, Nat.reduceBEq, Nat.reduceBNe, reduceCtorEq, beq_self_eq_true, Int.toNat_natCast, List.length_map, List.length_nil, Int.reduceToNat, Int.reduceAdd, Int.reduceSub, Int.reduceMul, Int.reduceLT, Int.reduceLE, Int.reduceEq, Int.reduceBEq, Int.reduceNeg, decide_true, decide_false, Nat.le_max_left, Nat.le_max_right, ne_eq, not_true_eq_false, not_false_eq_true, Int.natCast_zero, gt_iff_lt, ge_iff_le, Int.reduceGT, Int.reduceGE, Bool.false_and, Bool.and_false, Bool.true_and, Bool.and_true, ir28_l4, e2, e3, e4, e7, h2, h4, h15, d1, w1, F1, hbz]
      refine .next (m := k - 1) (by omega) ⟨os ++ [v1], i1, _, _, _, _, .ms 163 ((hg H 163).ver + 1) 0 1 1, ov, ⟨?_, ?_, ?_, ?_, ?_, ?_, by omega⟩, hzc.keep ?_ ?_ ?_ ?_ ?_, SlB.mk ?_ ?_ ?_, by omega, ?_, by simp; omega, hm⟩ <;> simp -implicitDefEqProofs only [go_sem, ↓reduceIte, Nat.reduceEqDiff, Nat.reduceAdd, Nat.reduceSub, Nat.reduceMul, Nat.reduceLeDiff, Nat.reduceLT, Nat.reduceBEq, Nat.reduceBNe, reduceCtorEq, beq_self_eq_true, Int.toNat_natCast, List.length_map, List.length_nil, Int.reduceToNat, Int.reduceAdd, Int.reduceSub, Int.reduceMul, Int.reduceLT, Int.reduceLE, Int.reduceEq, Int.reduceBEq, Int.reduceNeg, decide_true, decide_false, Nat.le_max_left, Nat.le_max_right, ne_eq, not_true_eq_false, not_false_eq_true, Int.natCast_zero, gt_iff_lt, ge_iff_le, Int.reduceGT, Int.reduceGE, Bool.false_and, Bool.and_false, Bool.true_and, Bool.and_true, e2, e3, e4, e7, h2, h4, h15, w1, List.map_append, ht]
    · simp -implicitDefEqProofs only [go_sem, ↓reduceIte, Nat.reduceEqDiff, Nat.reduceAdd, Nat.reduceSub, Nat.reduceMul, Nat.reduceLeDiff, Nat.reduceLT, Nat.reduceBEq, Nat.reduceBNe, reduceCtorEq, beq_self_eq_true, Int.toNat_natCast, List.length_map, List.length_nil, Int.reduceToNat, Int.reduceAdd, Int.reduceSub, Int.reduceMul, Int.reduceLT, Int.reduceLE, Int.reduceEq, Int.reduceBEq, Int.reduceNeg, decide_true, decide_false, Nat.le_max_left, Nat.le_max_right, ne_eq, not_true_eq_false, not_false_eq_true, Int.natCast_zero, gt_iff_lt, ge_iff_le, Int.reduceGT, Int.reduceGE, Bool.false_and, Bool.and_false, Bool.true_and, Bool.and_true, ir28_l4, e2, e3, e4, e7, h2, h4, h15, d1, w1, F1, hbz, hb, c1', c2', ht']
      refine .next (m := k - 1) (by omega) ⟨os ++ [v1], i1, _, _, _, _, .ms 163 (ver + 1 + 1) 0 (os.length + 1) (os.length + 1), ov, ⟨?_, ?_, ?_, ?_, ?_, ?_, by omega⟩, hzc.keep ?_ ?_ ?_ ?_ ?_, SlB.mk ?_ ?_ ?_, by omega, ?_, by simp; omega, hm⟩ <;> simp -implicitDefEqProofs only [go_sem, ↓reduceIte, Nat.reduceEqDiff, Nat.reduceAdd, Nat.reduceSub, Nat.reduceMul, Nat.reduceLeDiff, Nat.reduceLT, Nat.reduceBEq, Nat.reduceBNe, reduceCtorEq, beq_self_eq_true, Int.toNat_natCast, List.length_map, List.length_nil, Int.reduceToNat, Int.reduceAdd, Int.reduceSub, Int.reduceMul, Int.reduceLT, Int.reduceLE, Int.reduceEq, Int.reduceBEq, Int.reduceNeg, decide_true, decide_false, Nat.le_max_left, Nat.le_max_right, ne_eq, not_true_eq_false, not_false_eq_true, Int.natCast_zero, gt_iff_lt, ge_iff_le, Int.reduceGT, Int.reduceGE, Bool.false_and, Bool.and_false, Bool.true_and, Bool.and_true, e2, e3, e4, e7, h2, h4, h15, w1, List.map_append, List.length_append]
def L5 (L : List Int) (r bl le ba : Int) (zs : List Int) (cs : List Cell) (ts : List Ten) (vs : List Ver) (rs : List Int) (N : Nat) (k : Nat) (s : VSt) : Prop := ∃ (os : List Int) (i : Nat) (zv cv tv vv rv ov : DV), CS L s i r bl le ba zv cv tv vv rv ov ∧ ZV r zs cs ts vs rs s.H zv cv tv vv rv ∧
  SlB s.H 179 1 (os.map eI) ov ∧ i + 10 * k ≤ 300 ∧ gt .bad s.E 13 = dI (k : Nat) ∧ os.length + k = N ∧ ∀ z, z ∈ os → 0 ≤ z ∧ z < zs.length
def Q5 (L : List Int) (r bl le ba : Int) (zs : List Int) (cs : List Cell) (ts : List Ten) (vs : List Ver) (rs : List Int) (N : Nat) (e : Ex) (s : VSt) : Prop := e = .exit 10 ∧ ∃ (os : List Int) (i : Nat) (zv cv tv vv rv ov : DV), CS L s i r bl le ba zv cv tv vv rv ov ∧ ZV r zs cs ts vs rs s.H zv cv tv vv rv ∧
  SlB s.H 179 1 (os.map eI) ov ∧ i ≤ 300 ∧ os.length = N ∧ ∀ z, z ∈ os → 0 ≤ z ∧ z < zs.length
theorem config_l5 (L : List Int) (hL : I64s L) (r bl le ba : Int) (zs : List Int) (hz0 : 1 ≤ zs.length) (hz6 : zs.length ≤ 6) (cs : List Cell) (ts : List Ten) (vs : List Ver) (rs : List Int) (N : Nat) (hN : N ≤ 4) : ∀ (k : Nat) s, L5 L r bl le ba zs cs ts vs rs N k s → Ok (R PP shF 0 182 (.loop ir28_l5) s) (Q5 L r bl le ba zs cs ts vs rs N) := by
  refine Ok_dn (L5 L r bl le ba zs cs ts vs rs N) fun k s hI => ?_
  obtain ⟨os, i, zv, cv, tv, vv, rv, ov, C, hzc, ht, hi, e7, len, rg⟩ := hI
  obtain ⟨E, H⟩ := s
  obtain ⟨e2, e3, e4, h2, h4, h15, hi0⟩ := C
  simp only at e2 e3 e4 h2 h4 h15 e7 hzc ht
  by_cases hk : k = 0
  · subst hk
    simp -implicitDefEqProofs only [go_sem, ↓reduceIte, Nat.reduceEqDiff, Nat.reduceAdd, Nat.reduceSub, Nat.reduceMul, Nat.reduceLeDiff, Nat.reduceLT, Nat.reduceBEq, Nat.reduceBNe, reduceCtorEq, beq_self_eq_true, Int.toNat_natCast, List.length_map, List.length_nil, Int.reduceToNat, Int.reduceAdd, Int.reduceSub, Int.reduceMul, Int.reduceLT, Int.reduceLE, Int.reduceEq, Int.reduceBEq, Int.reduceNeg, decide_true, decide_false, Nat.le_max_left, Nat.le_max_right, ne_eq, not_true_eq_false, not_false_eq_true, Int.natCast_zero, gt_iff_lt, ge_iff_le, Int.reduceGT, Int.reduceGE, Bool.false_and, Bool.and_false, Bool.true_and, Bool.and_true, ir28_l5, e7]
    refine .exit ⟨rfl, os, i, zv, cv, tv, vv, rv, ov, ⟨?_, ?_, ?_, ?_, ?_, ?_, by omega⟩, hzc.keep ?_ ?_ ?_ ?_ ?_ ?_, ht.keep ?_, by omega, by omega, rg⟩ <;> simp -implicitDefEqProofs only [go_sem, ↓reduceIte, Nat.reduceEqDiff, Nat.reduceAdd, Nat.reduceSub, Nat.reduceMul, Nat.reduceLeDiff, Nat.reduceLT, Nat.reduceBEq, Nat.reduceBNe, reduceCtorEq, beq_self_eq_true, Int.toNat_natCast, List.length_map, List.length_nil, Int.reduceToNat, Int.reduceAdd, Int.reduceSub, Int.reduceMul, Int.reduceLT, Int.reduceLE, Int.reduceEq, Int.reduceBEq, Int.reduceNeg, decide_true, decide_false, Nat.le_max_left, Nat.le_max_right, ne_eq, not_true_eq_false, not_false_eq_true, Int.natCast_zero, gt_iff_lt, ge_iff_le, Int.reduceGT, Int.reduceGE, Bool.false_and, Bool.and_false, Bool.true_and, Bool.and_true, e2, e3, e4, h2, h4, h15]
  · have d1 : decide (0 < (k : Int)) = true := by simp; omega
    have w1 : IntKind.wrap .i64 ((k : Int) - 1) = ((k - 1 : Nat) : Int) := by rw [w64 (by omega) (by omega)]; omega
    obtain ⟨v1, i1, a1, b1, c1, d1', F1⟩ := Next_ex L i zs.length hL (by omega) (by omega) (by omega)
    have c1' : ¬ os.length + 1 ≤ os.length := by omega
    have c2' : (os.length + 1) * 8 ≤ 140737488355328 ∧ os.length ≤ 9223372036854775806 := by omega
    have ht' : List.take os.length (os.map eI) = os.map eI := List.take_of_length_le (by simp)
    have hz := hzc.z
    rcases hz with ⟨hz, rfl⟩ | ⟨hz, verz, rfl, hbz⟩
    · exfalso
      have : zs = [] := by simpa using hz
      subst this; simp at hz0
    have hm : ∀ t, t ∈ os ++ [v1] → 0 ≤ t ∧ t < zs.length := by
      intro t hx
      rcases List.mem_append.1 hx with hx | hx
      · exact rg t hx
      · simp at hx; subst hx; omega
    rcases ht with ⟨ht, rfl⟩ | ⟨ht, ver, rfl, hb⟩
    · simp -implicitDefEqProofs only [go_sem, ↓reduceIte, Nat.reduceEqDiff, Nat.reduceAdd, Nat.reduceSub, Nat.reduceMul, Nat.reduceLeDiff, Nat.reduceLT, Nat.reduceBEq, Nat.reduceBNe, reduceCtorEq, beq_self_eq_true, Int.toNat_natCast, List.length_map, List.length_nil, Int.reduceToNat, Int.reduceAdd, Int.reduceSub, Int.reduceMul, Int.reduceLT, Int.reduceLE, Int.reduceEq, Int.reduceBEq, Int.reduceNeg, decide_true, decide_false, Nat.le_max_left, Nat.le_max_right, ne_eq, not_true_eq_false, not_false_eq_true, Int.natCast_zero, gt_iff_lt, ge_iff_le, Int.reduceGT, Int.reduceGE, Bool.false_and, Bool.and_false, Bool.true_and, Bool.and_true, ir28_l5, e2, e3, e4, e7, h2, h4, h15, d1, w1, F1, hbz]
      refine .next (m := k - 1) (by omega) ⟨os ++ [v1], i1, _, _, _, _, rv, .ms 179 ((hg H 179).ver + 1) 0 1 1, ⟨?_, ?_, ?_, ?_, ?_, ?_, by omega⟩, hzc.keep ?_ ?_ ?_ ?_ ?_ ?_, SlB.mk ?_ ?_ ?_, by omega, ?_, by simp; omega, hm⟩ <;> simp -implicitDefEqProofs only [go_sem, ↓reduceIte, Nat.reduceEqDiff, Nat.reduceAdd, Nat.reduceSub, Nat.reduceMul, Nat.reduceLeDiff, Nat.reduceLT, Nat.reduceBEq, Nat.reduceBNe, reduceCtorEq, beq_self_eq_true, Int.toNat_natCast, List.length_map, List.length_nil, Int.reduceToNat, Int.reduceAdd, Int.reduceSub, Int.reduceMul, Int.reduceLT, Int.reduceLE, Int.reduceEq, Int.reduceBEq, Int.reduceNeg, decide_true, decide_false, Nat.le_max_left, Nat.le_max_right, ne_eq, not_true_eq_false, not_false_eq_true, Int.natCast_zero, gt_iff_lt, ge_iff_le, Int.reduceGT, Int.reduceGE, Bool.false_and, Bool.and_false, Bool.true_and, Bool.and_true, e2, e3, e4, e7, h2, h4, h15, w1, List.map_append, ht]
    · simp -implicitDefEqProofs only [go_sem, ↓reduceIte, Nat.reduceEqDiff, Nat.reduceAdd, Nat.reduceSub, Nat.reduceMul, Nat.reduceLeDiff, Nat.reduceLT, Nat.reduceBEq, Nat.reduceBNe, reduceCtorEq, beq_self_eq_true, Int.toNat_natCast, List.length_map, List.length_nil, Int.reduceToNat, Int.reduceAdd, Int.reduceSub, Int.reduceMul, Int.reduceLT, Int.reduceLE, Int.reduceEq, Int.reduceBEq, Int.reduceNeg, decide_true, decide_false, Nat.le_max_left, Nat.le_max_right, ne_eq, not_true_eq_false, not_false_eq_true, Int.natCast_zero, gt_iff_lt, ge_iff_le, Int.reduceGT, Int.reduceGE, Bool.false_and, Bool.and_false, Bool.true_and, Bool.and_true, ir28_l5, e2, e3, e4, e7, h2, h4, h15, d1, w1, F1, hbz, hb, c1', c2', ht']
      refine .next (m := k - 1) (by omega) ⟨os ++ [v1], i1, _, _, _, _, rv, .ms 179 (ver + 1 + 1) 0 (os.length + 1) (os.length + 1), ⟨?_, ?_, ?_, ?_, ?_, ?_, by omega⟩, hzc.keep ?_ ?_ ?_ ?_ ?_ ?_, SlB.mk ?_ ?_ ?_, by omega, ?_, by simp; omega, hm⟩ <;> simp -implicitDefEqProofs only [go_sem, ↓reduceIte, Nat.reduceEqDiff, Nat.reduceAdd, Nat.reduceSub, Nat.reduceMul, Nat.reduceLeDiff, Nat.reduceLT, Nat.reduceBEq, Nat.reduceBNe, reduceCtorEq, beq_self_eq_true, Int.toNat_natCast, List.length_map, List.length_nil, Int.reduceToNat, Int.reduceAdd, Int.reduceSub, Int.reduceMul, Int.reduceLT, Int.reduceLE, Int.reduceEq, Int.reduceBEq, Int.reduceNeg, decide_true, decide_false, Nat.le_max_left, Nat.le_max_right, ne_eq, not_true_eq_false, not_false_eq_true, Int.natCast_zero, gt_iff_lt, ge_iff_le, Int.reduceGT, Int.reduceGE, Bool.false_and, Bool.and_false, Bool.true_and, Bool.and_true, e2, e3, e4, e7, h2, h4, h15, w1, List.map_append, List.length_append]
/-- What every configuration out of a tape is. -/
structure ConfOk (k : Conf) : Prop where
  r0 : 1 ≤ k.regions
  r1 : k.regions ≤ 3
  z0 : k.regions ≤ (k.zones.length : Int)
  z1 : k.zones.length ≤ 6
  zs : ∀ z, z ∈ k.zones → 0 ≤ z ∧ z < k.regions
  c0 : k.zones.length ≤ k.cells.length
  c1 : k.cells.length ≤ 7
  cs : ∀ x, x ∈ k.cells → 0 ≤ x.zone ∧ x.zone < (k.zones.length : Int) ∧ 10 ≤ x.cap ∧ x.cap ≤ 40
  t1 : k.tens.length ≤ 5
  ts : ∀ x, x ∈ k.tens → TenOk k.regions x
  v0 : k.vers ≠ []
  v1 : k.vers.length ≤ 3
  vs : ∀ x, x ∈ k.vers → VerOk x
  vh : ∀ v, k.vers.head? = some v → v.low = 0
  ps : k.reps.length = 1 ∨ k.reps.length = 3
  pz : ∀ z, z ∈ k.reps → 0 ≤ z ∧ z < (k.zones.length : Int)
  o0 : 1 ≤ k.obs.length
  o1 : k.obs.length ≤ 4
  oz : ∀ z, z ∈ k.obs → 0 ≤ z ∧ z < (k.zones.length : Int)
  b0 : 1 ≤ k.blast
  b1 : k.blast ≤ 3
  l0 : 2 ≤ k.lease
  l1 : k.lease ≤ 12
  k0 : 0 ≤ k.bake
  k1 : k.bake ≤ 8
theorem closed_eI (l : List Int) : (l.map eI).all closedL = true := by simp [List.all_eq_true, closedL, closedD]
theorem closed_eC (l : List Cell) : (l.map eC).all closedL = true := by simp [List.all_eq_true, closedL, closedD]
theorem closed_eT (l : List Ten) : (l.map eT).all closedL = true := by simp [List.all_eq_true, closedL, closedD]
theorem closed_eV (l : List Ver) : (l.map eV).all closedL = true := by simp [List.all_eq_true, closedL, closedD]
theorem SlV.frz {H : VHeap} {vs : List Ver} {v : DV} (h : SlV H vs v) (n : Nat) : frzD H (n + 1) v = some (.sl (vs.map eV)) := by
  obtain ⟨_, b, ver, _, rfl, hb⟩ := h
  rw [frz_ms, hb]
  have ht : List.take vs.length (vs.map eV) = vs.map eV := List.take_of_length_le (by simp)
  simp only [VB.part, Nat.zero_add, Nat.le_refl, and_self, ne_eq, ↓reduceIte, List.drop_zero, List.length_map, ht, Option.bind_some, closed_eV, Nat.reduceEqDiff, not_false_eq_true, reduceCtorEq, and_true, true_and]
theorem SlV.one {H : VHeap} {vs : List Ver} {v : DV} (h : SlV H vs v) : oneD v = true := by
  obtain ⟨_, b, ver, _, rfl, _⟩ := h; rfl
theorem FV_Config (l : List Int) (hl : I64s l) : ∃ c, ConfOk c ∧ FV PP shF 28 [dL l] = some (.agg (eK c)) := by
  obtain ⟨v1, i1, a1, b1, c1, d1, F1⟩ := Next_ex l 0 5 hl (by omega) (by omega) (by omega)
  obtain ⟨v2, i2, a2, b2, c2, d2, F2⟩ := Range_ex l i1 1 3 hl (by omega) (by omega) (by omega) (by omega)
  obtain ⟨v3, i3, a3, b3, c3, d3, F3⟩ := Range_ex l i2 2 12 hl (by omega) (by omega) (by omega) (by omega)
  obtain ⟨v4, i4, a4, b4, c4, d4, F4⟩ := Next_ex l i3 9 hl (by omega) (by omega) (by omega)
  have w1 : IntKind.wrap .i64 (v1 + 1) = v1 + 1 := w64 (by omega) (by omega)
  have B1 := FV_Between (v1 + 1) 1 3 ⟨by omega, by omega⟩ (by omega) (by omega) (by omega)
  have hr : 1 ≤ 1 + (v1 + 1) % (3 - 1 + 1) ∧ 1 + (v1 + 1) % (3 - 1 + 1) ≤ 3 := by omega
  generalize 1 + (v1 + 1) % (3 - 1 + 1) = r at B1 hr
  suffices hs : OkF (F PP shF 28 [dL l] [] 0) (fun d H => ∃ c, ConfOk c ∧ frzD H 6 d = some (.agg (eK c))) by
    obtain ⟨d, H, h1, c, h2, h3⟩ := hs
    exact ⟨c, h2, FV_of h1 h3⟩
  refine F_ok PP28 rfl ⟨by simp [ir28], by simp⟩ ?_
  simp -implicitDefEqProofs only [go_sem, ↓reduceIte, Nat.reduceEqDiff, Nat.reduceAdd, Nat.reduceSub, Nat.reduceMul, Nat.reduceLeDiff, Nat.reduceLT, Nat.reduceBEq, Nat.reduceBNe, reduceCtorEq, beq_self_eq_true, Int.toNat_natCast, List.length_map, List.length_nil, Int.reduceToNat, Int.reduceAdd, Int.reduceSub, Int.reduceMul, Int.reduceLT, Int.reduceLE, Int.reduceEq, Int.reduceBEq, Int.reduceNeg, decide_true, decide_false, Nat.le_max_left, Nat.le_max_right, ne_eq, not_true_eq_false, not_false_eq_true, Int.natCast_zero, gt_iff_lt, ge_iff_le, Int.reduceGT, Int.reduceGE, Bool.false_and, Bool.and_false, Bool.true_and, Bool.and_true, ir28, vp_New, F1, F2, F3, F4, w1, vpS B1 rfl]
  refine (config_l0 l hl r v2 v3 v4 hr 0 _ ?_).mono ?_
  · refine ⟨[], i4, _, ⟨?_, ?_, ?_, ?_, ?_, ?_, by omega⟩, SlB.nil, by omega, ?_, rfl, by omega, by simp⟩ <;> simp -implicitDefEqProofs only [go_sem, ↓reduceIte, Nat.reduceEqDiff, Nat.reduceAdd, Nat.reduceSub, Nat.reduceMul, Nat.reduceLeDiff, Nat.reduceLT, Nat.reduceBEq, Nat.reduceBNe, reduceCtorEq, beq_self_eq_true, Int.toNat_natCast, List.length_map, List.length_nil, Int.reduceToNat, Int.reduceAdd, Int.reduceSub, Int.reduceMul, Int.reduceLT, Int.reduceLE, Int.reduceEq, Int.reduceBEq, Int.reduceNeg, decide_true, decide_false, Nat.le_max_left, Nat.le_max_right, ne_eq, not_true_eq_false, not_false_eq_true, Int.natCast_zero, gt_iff_lt, ge_iff_le, Int.reduceGT, Int.reduceGE, Bool.false_and, Bool.and_false, Bool.true_and, Bool.and_true, ]
  rintro e ⟨E, H⟩ ⟨rfl, zs, i, zv, ⟨e2, e3, e4, h2, h4, h15, hi0⟩, hz, hi, hzr, hz6, rgz⟩
  simp only at e2 e3 e4 h2 h4 h15 hz
  simp -implicitDefEqProofs only [go_sem, ↓reduceIte, Nat.reduceEqDiff, Nat.reduceAdd, Nat.reduceSub, Nat.reduceMul, Nat.reduceLeDiff, Nat.reduceLT, Nat.reduceBEq, Nat.reduceBNe, reduceCtorEq, beq_self_eq_true, Int.toNat_natCast, List.length_map, List.length_nil, Int.reduceToNat, Int.reduceAdd, Int.reduceSub, Int.reduceMul, Int.reduceLT, Int.reduceLE, Int.reduceEq, Int.reduceBEq, Int.reduceNeg, decide_true, decide_false, Nat.le_max_left, Nat.le_max_right, ne_eq, not_true_eq_false, not_false_eq_true, Int.natCast_zero, gt_iff_lt, ge_iff_le, Int.reduceGT, Int.reduceGE, Bool.false_and, Bool.and_false, Bool.true_and, Bool.and_true, ]
  refine (config_l1 l hl r v2 v3 v4 zs (by omega) hz6 0 _ ?_).mono ?_
  · refine ⟨[], i, zv, _, ⟨?_, ?_, ?_, ?_, ?_, ?_, by omega⟩, hz.keep ?_, SlB.nil, by omega, ?_, rfl, by omega, by simp⟩ <;> simp -implicitDefEqProofs only [go_sem, ↓reduceIte, Nat.reduceEqDiff, Nat.reduceAdd, Nat.reduceSub, Nat.reduceMul, Nat.reduceLeDiff, Nat.reduceLT, Nat.reduceBEq, Nat.reduceBNe, reduceCtorEq, beq_self_eq_true, Int.toNat_natCast, List.length_map, List.length_nil, Int.reduceToNat, Int.reduceAdd, Int.reduceSub, Int.reduceMul, Int.reduceLT, Int.reduceLE, Int.reduceEq, Int.reduceBEq, Int.reduceNeg, decide_true, decide_false, Nat.le_max_left, Nat.le_max_right, ne_eq, not_true_eq_false, not_false_eq_true, Int.natCast_zero, gt_iff_lt, ge_iff_le, Int.reduceGT, Int.reduceGE, Bool.false_and, Bool.and_false, Bool.true_and, Bool.and_true, e2, e3, e4, h2, h4, h15]
  clear e2 e3 e4 h2 h4 h15 hz hi hi0 F1 F2 F3 F4 c1 c2 c3 c4 d1 d2 d3 d4 B1
  rintro e ⟨E, H⟩ ⟨rfl, cs, i, zv, cv, ⟨e2, e3, e4, h2, h4, h15, hi0⟩, hz, hc, hi, hc0, hc7, rgc⟩
  simp only at e2 e3 e4 h2 h4 h15 hz hc
  obtain ⟨u1, j1, p1, q1, c1, d1, F1⟩ := Next_ex l i 6 hl (by omega) (by omega) (by omega)
  simp -implicitDefEqProofs only [go_sem, ↓reduceIte, Nat.reduceEqDiff, Nat.reduceAdd, Nat.reduceSub, Nat.reduceMul, Nat.reduceLeDiff, Nat.reduceLT, Nat.reduceBEq, Nat.reduceBNe, reduceCtorEq, beq_self_eq_true, Int.toNat_natCast, List.length_map, List.length_nil, Int.reduceToNat, Int.reduceAdd, Int.reduceSub, Int.reduceMul, Int.reduceLT, Int.reduceLE, Int.reduceEq, Int.reduceBEq, Int.reduceNeg, decide_true, decide_false, Nat.le_max_left, Nat.le_max_right, ne_eq, not_true_eq_false, not_false_eq_true, Int.natCast_zero, gt_iff_lt, ge_iff_le, Int.reduceGT, Int.reduceGE, Bool.false_and, Bool.and_false, Bool.true_and, Bool.and_true, e3, h15, F1]
  have hu1 : u1 = ((u1.toNat : Nat) : Int) := by omega
  refine (config_l2 l hl r v2 v3 v4 hr zs cs u1.toNat _ ?_).mono ?_
  · refine ⟨[], j1, zv, cv, _, ⟨?_, ?_, ?_, ?_, ?_, ?_, by omega⟩, ⟨hz.keep ?_, hc.keep ?_⟩, SlB.nil, by omega, ?_, by simp; omega, by simp⟩ <;> simp -implicitDefEqProofs only [go_sem, ↓reduceIte, Nat.reduceEqDiff, Nat.reduceAdd, Nat.reduceSub, Nat.reduceMul, Nat.reduceLeDiff, Nat.reduceLT, Nat.reduceBEq, Nat.reduceBNe, reduceCtorEq, beq_self_eq_true, Int.toNat_natCast, List.length_map, List.length_nil, Int.reduceToNat, Int.reduceAdd, Int.reduceSub, Int.reduceMul, Int.reduceLT, Int.reduceLE, Int.reduceEq, Int.reduceBEq, Int.reduceNeg, decide_true, decide_false, Nat.le_max_left, Nat.le_max_right, ne_eq, not_true_eq_false, not_false_eq_true, Int.natCast_zero, gt_iff_lt, ge_iff_le, Int.reduceGT, Int.reduceGE, Bool.false_and, Bool.and_false, Bool.true_and, Bool.and_true, e2, e3, e4, h2, h4, h15]
    rw [← hu1]
  clear e2 e3 e4 h2 h4 h15 hz hc hi hi0 F1 c1 d1 hu1
  rintro e ⟨E, H⟩ ⟨rfl, ts, i, zv, cv, tv, ⟨e2, e3, e4, h2, h4, h15, hi0⟩, hzc, ht, hi, ht5, rgt⟩
  simp only at e2 e3 e4 h2 h4 h15 hzc ht
  obtain ⟨x1, j1, p1, q1, c1, d1, F1⟩ := Next_ex l i 3 hl (by omega) (by omega) (by omega)
  obtain ⟨x2, j2, p2, q2, c2, d2, F2⟩ := Next_ex l j1 3 hl (by omega) (by omega) (by omega)
  simp -implicitDefEqProofs only [go_sem, ↓reduceIte, Nat.reduceEqDiff, Nat.reduceAdd, Nat.reduceSub, Nat.reduceMul, Nat.reduceLeDiff, Nat.reduceLT, Nat.reduceBEq, Nat.reduceBNe, reduceCtorEq, beq_self_eq_true, Int.toNat_natCast, List.length_map, List.length_nil, Int.reduceToNat, Int.reduceAdd, Int.reduceSub, Int.reduceMul, Int.reduceLT, Int.reduceLE, Int.reduceEq, Int.reduceBEq, Int.reduceNeg, decide_true, decide_false, Nat.le_max_left, Nat.le_max_right, ne_eq, not_true_eq_false, not_false_eq_true, Int.natCast_zero, gt_iff_lt, ge_iff_le, Int.reduceGT, Int.reduceGE, Bool.false_and, Bool.and_false, Bool.true_and, Bool.and_true, e3, e4, h4, h15, F1, F2]
  have hu1 : x2 = ((x2.toNat : Nat) : Int) := by omega
  refine (config_l3 l hl r v2 v3 v4 zs cs ts x2.toNat _ ?_).mono ?_
  · refine ⟨[⟨0, x1⟩], j2, zv, cv, tv, .ms 126 ((hg H 126).ver + 1) 0 1 1, ⟨?_, ?_, ?_, ?_, ?_, ?_, by omega⟩, ⟨hzc.z.keep ?_, hzc.c.keep ?_, ht.keep ?_⟩, ⟨by simp, 126, (hg H 126).ver + 1, .inl rfl, ?_, ?_⟩, by omega, ?_, by simp; omega, ?_, by simp⟩ <;> (try simp -implicitDefEqProofs only [go_sem, ↓reduceIte, Nat.reduceEqDiff, Nat.reduceAdd, Nat.reduceSub, Nat.reduceMul, Nat.reduceLeDiff, Nat.reduceLT, Nat.reduceBEq, Nat.reduceBNe, reduceCtorEq, beq_self_eq_true, Int.toNat_natCast, List.length_map, List.length_nil, Int.reduceToNat, Int.reduceAdd, Int.reduceSub, Int.reduceMul, Int.reduceLT, Int.reduceLE, Int.reduceEq, Int.reduceBEq, Int.reduceNeg, decide_true, decide_false, Nat.le_max_left, Nat.le_max_right, ne_eq, not_true_eq_false, not_false_eq_true, Int.natCast_zero, gt_iff_lt, ge_iff_le, Int.reduceGT, Int.reduceGE, Bool.false_and, Bool.and_false, Bool.true_and, Bool.and_true, e2, e3, e4, h2, h4, h15])
    · rw [← hu1]
    · intro v hv
      simp at hv; subst hv
      constructor <;> simp only <;> omega
  clear e2 e3 e4 h2 h4 h15 hzc ht hi hi0 F1 F2 c1 d1 c2 d2 hu1
  rintro e ⟨E, H⟩ ⟨rfl, vs, i, zv, cv, tv, vv, ⟨e2, e3, e4, h2, h4, h15, hi0⟩, hzc, hv, hi, hv3, rgv, hvh⟩
  simp only at e2 e3 e4 h2 h4 h15 hzc hv
  obtain ⟨y1, j1, p1, q1, c1, d1, F1⟩ := Next_ex l i 2 hl (by omega) (by omega) (by omega)
  have w2 : IntKind.wrap .i64 (2 * y1) = 2 * y1 := w64 (by omega) (by omega)
  have w3 : IntKind.wrap .i64 (2 * y1 + 1) = 2 * y1 + 1 := w64 (by omega) (by omega)
  simp -implicitDefEqProofs only [go_sem, ↓reduceIte, Nat.reduceEqDiff, Nat.reduceAdd, Nat.reduceSub, Nat.reduceMul, Nat.reduceLeDiff, Nat.reduceLT, Nat.reduceBEq, Nat.reduceBNe, reduceCtorEq, beq_self_eq_true, Int.toNat_natCast, List.length_map, List.length_nil, Int.reduceToNat, Int.reduceAdd, Int.reduceSub, Int.reduceMul, Int.reduceLT, Int.reduceLE, Int.reduceEq, Int.reduceBEq, Int.reduceNeg, decide_true, decide_false, Nat.le_max_left, Nat.le_max_right, ne_eq, not_true_eq_false, not_false_eq_true, Int.natCast_zero, gt_iff_lt, ge_iff_le, Int.reduceGT, Int.reduceGE, Bool.false_and, Bool.and_false, Bool.true_and, Bool.and_true, e3, e4, h4, h15, F1, w2, w3]
  have hu1 : 2 * y1 + 1 = (((2 * y1 + 1).toNat : Nat) : Int) := by omega
  refine (config_l4 l hl r v2 v3 v4 zs (by omega) hz6 cs ts vs [] (2 * y1 + 1).toNat (by omega) (2 * y1 + 1).toNat _ ?_).mono ?_
  · refine ⟨[], j1, zv, cv, tv, vv, _, .bad, ⟨?_, ?_, ?_, ?_, ?_, ?_, by omega⟩, ⟨hzc.z.keep ?_, hzc.c.keep ?_, hzc.t.keep ?_, hv.keep ?_ ?_⟩, SlB.nil, by omega, ?_, by simp, by simp⟩ <;> simp -implicitDefEqProofs only [go_sem, ↓reduceIte, Nat.reduceEqDiff, Nat.reduceAdd, Nat.reduceSub, Nat.reduceMul, Nat.reduceLeDiff, Nat.reduceLT, Nat.reduceBEq, Nat.reduceBNe, reduceCtorEq, beq_self_eq_true, Int.toNat_natCast, List.length_map, List.length_nil, Int.reduceToNat, Int.reduceAdd, Int.reduceSub, Int.reduceMul, Int.reduceLT, Int.reduceLE, Int.reduceEq, Int.reduceBEq, Int.reduceNeg, decide_true, decide_false, Nat.le_max_left, Nat.le_max_right, ne_eq, not_true_eq_false, not_false_eq_true, Int.natCast_zero, gt_iff_lt, ge_iff_le, Int.reduceGT, Int.reduceGE, Bool.false_and, Bool.and_false, Bool.true_and, Bool.and_true, e2, e3, e4, h2, h4, h15]
    rw [← hu1]
  clear e2 e3 e4 h2 h4 h15 hzc hv hi hi0 F1 c1 d1 hu1
  rintro e ⟨E, H⟩ ⟨rfl, rs, i, zv, cv, tv, vv, rv, ov, ⟨e2, e3, e4, h2, h4, h15, hi0⟩, hzc, hrs, hi, hrl, rgr⟩
  simp only at e2 e3 e4 h2 h4 h15 hzc hrs
  obtain ⟨o1, j1, p3, q3, c1, d1, F1⟩ := Range_ex l i 1 4 hl (by omega) (by omega) (by omega) (by omega)
  simp -implicitDefEqProofs only [go_sem, ↓reduceIte, Nat.reduceEqDiff, Nat.reduceAdd, Nat.reduceSub, Nat.reduceMul, Nat.reduceLeDiff, Nat.reduceLT, Nat.reduceBEq, Nat.reduceBNe, reduceCtorEq, beq_self_eq_true, Int.toNat_natCast, List.length_map, List.length_nil, Int.reduceToNat, Int.reduceAdd, Int.reduceSub, Int.reduceMul, Int.reduceLT, Int.reduceLE, Int.reduceEq, Int.reduceBEq, Int.reduceNeg, decide_true, decide_false, Nat.le_max_left, Nat.le_max_right, ne_eq, not_true_eq_false, not_false_eq_true, Int.natCast_zero, gt_iff_lt, ge_iff_le, Int.reduceGT, Int.reduceGE, Bool.false_and, Bool.and_false, Bool.true_and, Bool.and_true, e3, e4, h4, h15, F1]
  have hu1 : o1 = ((o1.toNat : Nat) : Int) := by omega
  refine (config_l5 l hl r v2 v3 v4 zs (by omega) hz6 cs ts vs rs o1.toNat (by omega) o1.toNat _ ?_).mono ?_
  · refine ⟨[], j1, zv, cv, tv, vv, rv, _, ⟨?_, ?_, ?_, ?_, ?_, ?_, by omega⟩, ⟨hzc.z.keep ?_, hzc.c.keep ?_, hzc.t.keep ?_, hzc.v.keep ?_ ?_, hrs.keep ?_⟩, SlB.nil, by omega, ?_, by simp, by simp⟩ <;> simp -implicitDefEqProofs only [go_sem, ↓reduceIte, Nat.reduceEqDiff, Nat.reduceAdd, Nat.reduceSub, Nat.reduceMul, Nat.reduceLeDiff, Nat.reduceLT, Nat.reduceBEq, Nat.reduceBNe, reduceCtorEq, beq_self_eq_true, Int.toNat_natCast, List.length_map, List.length_nil, Int.reduceToNat, Int.reduceAdd, Int.reduceSub, Int.reduceMul, Int.reduceLT, Int.reduceLE, Int.reduceEq, Int.reduceBEq, Int.reduceNeg, decide_true, decide_false, Nat.le_max_left, Nat.le_max_right, ne_eq, not_true_eq_false, not_false_eq_true, Int.natCast_zero, gt_iff_lt, ge_iff_le, Int.reduceGT, Int.reduceGE, Bool.false_and, Bool.and_false, Bool.true_and, Bool.and_true, e2, e3, e4, h2, h4, h15]
    rw [← hu1]
  clear e2 e3 e4 h2 h4 h15 hzc hrs hi hi0 F1 c1 d1 hu1
  rintro e ⟨E, H⟩ ⟨rfl, os, i, zv, cv, tv, vv, rv, ov, ⟨e2, e3, e4, h2, h4, h15, hi0⟩, hzc, hos, hi, hol, rgo⟩
  simp only at e2 e3 e4 h2 h4 h15 hzc hos
  simp -implicitDefEqProofs only [go_sem, ↓reduceIte, Nat.reduceEqDiff, Nat.reduceAdd, Nat.reduceSub, Nat.reduceMul, Nat.reduceLeDiff, Nat.reduceLT, Nat.reduceBEq, Nat.reduceBNe, reduceCtorEq, beq_self_eq_true, Int.toNat_natCast, List.length_map, List.length_nil, Int.reduceToNat, Int.reduceAdd, Int.reduceSub, Int.reduceMul, Int.reduceLT, Int.reduceLE, Int.reduceEq, Int.reduceBEq, Int.reduceNeg, decide_true, decide_false, Nat.le_max_left, Nat.le_max_right, ne_eq, not_true_eq_false, not_false_eq_true, Int.natCast_zero, gt_iff_lt, ge_iff_le, Int.reduceGT, Int.reduceGE, Bool.false_and, Bool.and_false, Bool.true_and, Bool.and_true, e2, e4, h2, h4, h15, hzc.z.one, hzc.c.one, hzc.t.one, hzc.v.one, hzc.r.one, hos.one]
  refine ⟨⟨r, zs, cs, ts, vs, rs, os, v2, v3, v4⟩, ?_, ?_⟩
  · exact ⟨hr.1, hr.2, hzr, hz6, rgz, hc0, hc7, rgc, ht5, rgt, hzc.v.1, hv3, rgv, hvh, by simp only; omega, rgr, by simp only; omega, by simp only; omega, rgo, a2, b2, a3, b3, a4, by simp only; omega⟩
  · have K1 : ∀ x, frzD (hs H 2 x) 5 zv = some (.sl (zs.map eI)) := fun x => (hzc.z.keep (by simp -implicitDefEqProofs only [go_sem, ↓reduceIte, Nat.reduceEqDiff, Nat.reduceAdd, Nat.reduceSub, Nat.reduceMul, Nat.reduceLeDiff, Nat.reduceLT, Nat.reduceBEq, Nat.reduceBNe, reduceCtorEq, beq_self_eq_true, Int.toNat_natCast, List.length_map, List.length_nil, Int.reduceToNat, Int.reduceAdd, Int.reduceSub, Int.reduceMul, Int.reduceLT, Int.reduceLE, Int.reduceEq, Int.reduceBEq, Int.reduceNeg, decide_true, decide_false, Nat.le_max_left, Nat.le_max_right, ne_eq, not_true_eq_false, not_false_eq_true, Int.natCast_zero, gt_iff_lt, ge_iff_le, Int.reduceGT, Int.reduceGE, Bool.false_and, Bool.and_false, Bool.true_and, Bool.and_true, ])).frz (by decide) (closed_eI _) 4
    have K2 : ∀ x, frzD (hs H 2 x) 5 cv = some (.sl (cs.map eC)) := fun x => (hzc.c.keep (by simp -implicitDefEqProofs only [go_sem, ↓reduceIte, Nat.reduceEqDiff, Nat.reduceAdd, Nat.reduceSub, Nat.reduceMul, Nat.reduceLeDiff, Nat.reduceLT, Nat.reduceBEq, Nat.reduceBNe, reduceCtorEq, beq_self_eq_true, Int.toNat_natCast, List.length_map, List.length_nil, Int.reduceToNat, Int.reduceAdd, Int.reduceSub, Int.reduceMul, Int.reduceLT, Int.reduceLE, Int.reduceEq, Int.reduceBEq, Int.reduceNeg, decide_true, decide_false, Nat.le_max_left, Nat.le_max_right, ne_eq, not_true_eq_false, not_false_eq_true, Int.natCast_zero, gt_iff_lt, ge_iff_le, Int.reduceGT, Int.reduceGE, Bool.false_and, Bool.and_false, Bool.true_and, Bool.and_true, ])).frz (by decide) (closed_eC _) 4
    have K3 : ∀ x, frzD (hs H 2 x) 5 tv = some (.sl (ts.map eT)) := fun x => (hzc.t.keep (by simp -implicitDefEqProofs only [go_sem, ↓reduceIte, Nat.reduceEqDiff, Nat.reduceAdd, Nat.reduceSub, Nat.reduceMul, Nat.reduceLeDiff, Nat.reduceLT, Nat.reduceBEq, Nat.reduceBNe, reduceCtorEq, beq_self_eq_true, Int.toNat_natCast, List.length_map, List.length_nil, Int.reduceToNat, Int.reduceAdd, Int.reduceSub, Int.reduceMul, Int.reduceLT, Int.reduceLE, Int.reduceEq, Int.reduceBEq, Int.reduceNeg, decide_true, decide_false, Nat.le_max_left, Nat.le_max_right, ne_eq, not_true_eq_false, not_false_eq_true, Int.natCast_zero, gt_iff_lt, ge_iff_le, Int.reduceGT, Int.reduceGE, Bool.false_and, Bool.and_false, Bool.true_and, Bool.and_true, ])).frz (by decide) (closed_eT _) 4
    have K4 : ∀ x, frzD (hs H 2 x) 5 vv = some (.sl (vs.map eV)) := fun x => (hzc.v.keep (by simp -implicitDefEqProofs only [go_sem, ↓reduceIte, Nat.reduceEqDiff, Nat.reduceAdd, Nat.reduceSub, Nat.reduceMul, Nat.reduceLeDiff, Nat.reduceLT, Nat.reduceBEq, Nat.reduceBNe, reduceCtorEq, beq_self_eq_true, Int.toNat_natCast, List.length_map, List.length_nil, Int.reduceToNat, Int.reduceAdd, Int.reduceSub, Int.reduceMul, Int.reduceLT, Int.reduceLE, Int.reduceEq, Int.reduceBEq, Int.reduceNeg, decide_true, decide_false, Nat.le_max_left, Nat.le_max_right, ne_eq, not_true_eq_false, not_false_eq_true, Int.natCast_zero, gt_iff_lt, ge_iff_le, Int.reduceGT, Int.reduceGE, Bool.false_and, Bool.and_false, Bool.true_and, Bool.and_true, ]) (by simp -implicitDefEqProofs only [go_sem, ↓reduceIte, Nat.reduceEqDiff, Nat.reduceAdd, Nat.reduceSub, Nat.reduceMul, Nat.reduceLeDiff, Nat.reduceLT, Nat.reduceBEq, Nat.reduceBNe, reduceCtorEq, beq_self_eq_true, Int.toNat_natCast, List.length_map, List.length_nil, Int.reduceToNat, Int.reduceAdd, Int.reduceSub, Int.reduceMul, Int.reduceLT, Int.reduceLE, Int.reduceEq, Int.reduceBEq, Int.reduceNeg, decide_true, decide_false, Nat.le_max_left, Nat.le_max_right, ne_eq, not_true_eq_false, not_false_eq_true, Int.natCast_zero, gt_iff_lt, ge_iff_le, Int.reduceGT, Int.reduceGE, Bool.false_and, Bool.and_false, Bool.true_and, Bool.and_true, ])).frz 4
    have K5 : ∀ x, frzD (hs H 2 x) 5 rv = some (.sl (rs.map eI)) := fun x => (hzc.r.keep (by simp -implicitDefEqProofs only [go_sem, ↓reduceIte, Nat.reduceEqDiff, Nat.reduceAdd, Nat.reduceSub, Nat.reduceMul, Nat.reduceLeDiff, Nat.reduceLT, Nat.reduceBEq, Nat.reduceBNe, reduceCtorEq, beq_self_eq_true, Int.toNat_natCast, List.length_map, List.length_nil, Int.reduceToNat, Int.reduceAdd, Int.reduceSub, Int.reduceMul, Int.reduceLT, Int.reduceLE, Int.reduceEq, Int.reduceBEq, Int.reduceNeg, decide_true, decide_false, Nat.le_max_left, Nat.le_max_right, ne_eq, not_true_eq_false, not_false_eq_true, Int.natCast_zero, gt_iff_lt, ge_iff_le, Int.reduceGT, Int.reduceGE, Bool.false_and, Bool.and_false, Bool.true_and, Bool.and_true, ])).frz (by decide) (closed_eI _) 4
    have K6 : ∀ x, frzD (hs H 2 x) 5 ov = some (.sl (os.map eI)) := fun x => (hos.keep (by simp -implicitDefEqProofs only [go_sem, ↓reduceIte, Nat.reduceEqDiff, Nat.reduceAdd, Nat.reduceSub, Nat.reduceMul, Nat.reduceLeDiff, Nat.reduceLT, Nat.reduceBEq, Nat.reduceBNe, reduceCtorEq, beq_self_eq_true, Int.toNat_natCast, List.length_map, List.length_nil, Int.reduceToNat, Int.reduceAdd, Int.reduceSub, Int.reduceMul, Int.reduceLT, Int.reduceLE, Int.reduceEq, Int.reduceBEq, Int.reduceNeg, decide_true, decide_false, Nat.le_max_left, Nat.le_max_right, ne_eq, not_true_eq_false, not_false_eq_true, Int.natCast_zero, gt_iff_lt, ge_iff_le, Int.reduceGT, Int.reduceGE, Bool.false_and, Bool.and_false, Bool.true_and, Bool.and_true, ])).frz (by decide) (closed_eI _) 4
    simp -implicitDefEqProofs only [go_sem, ↓reduceIte, Nat.reduceEqDiff, Nat.reduceAdd, Nat.reduceSub, Nat.reduceMul, Nat.reduceLeDiff, Nat.reduceLT, Nat.reduceBEq, Nat.reduceBNe, reduceCtorEq, beq_self_eq_true, Int.toNat_natCast, List.length_map, List.length_nil, Int.reduceToNat, Int.reduceAdd, Int.reduceSub, Int.reduceMul, Int.reduceLT, Int.reduceLE, Int.reduceEq, Int.reduceBEq, Int.reduceNeg, decide_true, decide_false, Nat.le_max_left, Nat.le_max_right, ne_eq, not_true_eq_false, not_false_eq_true, Int.natCast_zero, gt_iff_lt, ge_iff_le, Int.reduceGT, Int.reduceGE, Bool.false_and, Bool.and_false, Bool.true_and, Bool.and_true, K1, K2, K3, K4, K5, K6]
/-- Element i of a set. -/
def bit (s i : Int) : Bool := decide ((s / 2 ^ i.toNat) % 2 = 1)
theorem and1 (a : Int) : andI .i64 a 1 = a % 2 := by
  have h : ((BitVec.ofInt 64 a &&& BitVec.ofInt 64 1).toNat : Int) = a % 2 := by
    have h1 : (BitVec.ofInt 64 1 : BitVec 64) = 1#64 := by decide
    rw [h1, BitVec.toNat_and]
    have h2 : (1#64).toNat = 1 := by decide
    rw [h2, Nat.and_one_is_mod, BitVec.toNat_ofInt]
    have h3 : 0 ≤ a % (2 ^ 64 : Nat) := Int.emod_nonneg _ (by decide)
    omega
  show IntKind.wrap .i64 (((BitVec.ofInt 64 a &&& BitVec.ofInt 64 1).toNat : Nat) : Int) = a % 2
  rw [h, w64 (by omega) (by omega)]
theorem shr_div (s i : Int) (h0 : 0 ≤ i) (h1 : i ≤ 64) : s.fdiv (2 ^ (min i.toNat 64)) = s / 2 ^ i.toNat := by
  rw [show min i.toNat 64 = i.toNat by omega]
  rw [Int.fdiv_eq_ediv_of_nonneg _ (by exact Int.pow_nonneg (by decide))]
def regZ (c : Conf) (z : Int) : Int := if 0 ≤ z ∧ z < c.zones.length then c.zones.getD z.toNat 0 else -1
/-- Lists are not too long for the machine. -/
structure Lens (k : Conf) : Prop where
  z : k.zones.length ≤ 1000
  c : k.cells.length ≤ 1000
  t : k.tens.length ≤ 1000
  v : k.vers.length ≤ 1000
  p : k.reps.length ≤ 1000
  o : k.obs.length ≤ 1000
theorem getD_at {α : Type} {l : List α} {i : Nat} {d : α} (h : i < l.length) : l[i]? = some (l.getD i d) := by
  rw [List.getElem?_eq_getElem h, List.getD_eq_getElem?_getD, List.getElem?_eq_getElem h]; rfl

theorem FV_tbetween (n lo hi : Int) : FV PP shF 66 [dI n, dI lo, dI hi] = some (dB (decide (lo ≤ n) && decide (n ≤ hi))) := by
  refine FV_B (H := []) ?_
  rw [F_fun PP66 rfl ⟨by simp [ir66], by simp⟩]
  by_cases h : lo ≤ n
  · simp -implicitDefEqProofs only [go_sem, ↓reduceIte, Nat.reduceEqDiff, Nat.reduceAdd, Nat.reduceSub, Nat.reduceMul, Nat.reduceLeDiff, Nat.reduceLT, Nat.reduceBEq, Nat.reduceBNe, reduceCtorEq, beq_self_eq_true, Int.toNat_natCast, List.length_map, List.length_nil, Int.reduceToNat, Int.reduceAdd, Int.reduceSub, Int.reduceMul, Int.reduceLT, Int.reduceLE, Int.reduceEq, Int.reduceBEq, Int.reduceNeg, decide_true, decide_false, Nat.le_max_left, Nat.le_max_right, ne_eq, not_true_eq_false, not_false_eq_true, Int.natCast_zero, gt_iff_lt, ge_iff_le, Int.reduceGT, Int.reduceGE, Bool.false_and, Bool.and_false, Bool.true_and, Bool.and_true, ir66, h]
  · simp -implicitDefEqProofs only [go_sem, ↓reduceIte, Nat.reduceEqDiff, Nat.reduceAdd, Nat.reduceSub, Nat.reduceMul, Nat.reduceLeDiff, Nat.reduceLT, Nat.reduceBEq, Nat.reduceBNe, reduceCtorEq, beq_self_eq_true, Int.toNat_natCast, List.length_map, List.length_nil, Int.reduceToNat, Int.reduceAdd, Int.reduceSub, Int.reduceMul, Int.reduceLT, Int.reduceLE, Int.reduceEq, Int.reduceBEq, Int.reduceNeg, decide_true, decide_false, Nat.le_max_left, Nat.le_max_right, ne_eq, not_true_eq_false, not_false_eq_true, Int.natCast_zero, gt_iff_lt, ge_iff_le, Int.reduceGT, Int.reduceGE, Bool.false_and, Bool.and_false, Bool.true_and, Bool.and_true, ir66, h]
theorem FV_belongs (r s : Int) : FV PP shF 72 [dI r, dI s] = some (dB (decide (0 ≤ r) && decide (r < 4) && bit s r)) := by
  refine FV_B (H := []) ?_
  rw [F_fun PP72 rfl ⟨by simp [ir72], by simp⟩]
  by_cases h : 0 ≤ r
  · by_cases h4 : r < 4
    · have h5 : ¬ r < 0 := by omega
      have h6 := shr_div s r h (by omega)
      simp -implicitDefEqProofs only [go_sem, ↓reduceIte, Nat.reduceEqDiff, Nat.reduceAdd, Nat.reduceSub, Nat.reduceMul, Nat.reduceLeDiff, Nat.reduceLT, Nat.reduceBEq, Nat.reduceBNe, reduceCtorEq, beq_self_eq_true, Int.toNat_natCast, List.length_map, List.length_nil, Int.reduceToNat, Int.reduceAdd, Int.reduceSub, Int.reduceMul, Int.reduceLT, Int.reduceLE, Int.reduceEq, Int.reduceBEq, Int.reduceNeg, decide_true, decide_false, Nat.le_max_left, Nat.le_max_right, ne_eq, not_true_eq_false, not_false_eq_true, Int.natCast_zero, gt_iff_lt, ge_iff_le, Int.reduceGT, Int.reduceGE, Bool.false_and, Bool.and_false, Bool.true_and, Bool.and_true, ir72, h, h4, h5, h6, and1, bit]
      rfl
    · simp -implicitDefEqProofs only [go_sem, ↓reduceIte, Nat.reduceEqDiff, Nat.reduceAdd, Nat.reduceSub, Nat.reduceMul, Nat.reduceLeDiff, Nat.reduceLT, Nat.reduceBEq, Nat.reduceBNe, reduceCtorEq, beq_self_eq_true, Int.toNat_natCast, List.length_map, List.length_nil, Int.reduceToNat, Int.reduceAdd, Int.reduceSub, Int.reduceMul, Int.reduceLT, Int.reduceLE, Int.reduceEq, Int.reduceBEq, Int.reduceNeg, decide_true, decide_false, Nat.le_max_left, Nat.le_max_right, ne_eq, not_true_eq_false, not_false_eq_true, Int.natCast_zero, gt_iff_lt, ge_iff_le, Int.reduceGT, Int.reduceGE, Bool.false_and, Bool.and_false, Bool.true_and, Bool.and_true, ir72, h, h4]
  · simp -implicitDefEqProofs only [go_sem, ↓reduceIte, Nat.reduceEqDiff, Nat.reduceAdd, Nat.reduceSub, Nat.reduceMul, Nat.reduceLeDiff, Nat.reduceLT, Nat.reduceBEq, Nat.reduceBNe, reduceCtorEq, beq_self_eq_true, Int.toNat_natCast, List.length_map, List.length_nil, Int.reduceToNat, Int.reduceAdd, Int.reduceSub, Int.reduceMul, Int.reduceLT, Int.reduceLE, Int.reduceEq, Int.reduceBEq, Int.reduceNeg, decide_true, decide_false, Nat.le_max_left, Nat.le_max_right, ne_eq, not_true_eq_false, not_false_eq_true, Int.natCast_zero, gt_iff_lt, ge_iff_le, Int.reduceGT, Int.reduceGE, Bool.false_and, Bool.and_false, Bool.true_and, Bool.and_true, ir72, h]
theorem FV_region (c : Conf) (hc : Lens c) (z : Int) : FV PP shF 73 [.agg (eK c), dI z] = some (dI (regZ c z)) := by
  refine FV_ok (F_ok PP73 rfl ⟨by simp [ir73], by simp⟩ ?_)
  have hl := hc.z
  have w : IntKind.wrap .i64 ((c.zones.length : Int) - 1) = (c.zones.length : Int) - 1 := w64 (by omega) (by omega)
  have B := FV_tbetween z 0 ((c.zones.length : Int) - 1)
  unfold regZ
  by_cases h : 0 ≤ z ∧ z < c.zones.length
  · have e1 : (decide (0 ≤ z) && decide (z ≤ (c.zones.length : Int) - 1)) = true := by simp; omega
    rw [e1] at B
    have hg := getD_at (l := c.zones) (i := z.toNat) (d := 0) (by omega)
    simp -implicitDefEqProofs only [go_sem, ↓reduceIte, Nat.reduceEqDiff, Nat.reduceAdd, Nat.reduceSub, Nat.reduceMul, Nat.reduceLeDiff, Nat.reduceLT, Nat.reduceBEq, Nat.reduceBNe, reduceCtorEq, beq_self_eq_true, Int.toNat_natCast, List.length_map, List.length_nil, Int.reduceToNat, Int.reduceAdd, Int.reduceSub, Int.reduceMul, Int.reduceLT, Int.reduceLE, Int.reduceEq, Int.reduceBEq, Int.reduceNeg, decide_true, decide_false, Nat.le_max_left, Nat.le_max_right, ne_eq, not_true_eq_false, not_false_eq_true, Int.natCast_zero, gt_iff_lt, ge_iff_le, Int.reduceGT, Int.reduceGE, Bool.false_and, Bool.and_false, Bool.true_and, Bool.and_true, ir73, eK, w, vpS B rfl, h, hg]
  · have e1 : (decide (0 ≤ z) && decide (z ≤ (c.zones.length : Int) - 1)) = false := by simp; omega
    rw [e1] at B
    simp -implicitDefEqProofs only [go_sem, ↓reduceIte, Nat.reduceEqDiff, Nat.reduceAdd, Nat.reduceSub, Nat.reduceMul, Nat.reduceLeDiff, Nat.reduceLT, Nat.reduceBEq, Nat.reduceBNe, reduceCtorEq, beq_self_eq_true, Int.toNat_natCast, List.length_map, List.length_nil, Int.reduceToNat, Int.reduceAdd, Int.reduceSub, Int.reduceMul, Int.reduceLT, Int.reduceLE, Int.reduceEq, Int.reduceBEq, Int.reduceNeg, decide_true, decide_false, Nat.le_max_left, Nat.le_max_right, ne_eq, not_true_eq_false, not_false_eq_true, Int.natCast_zero, gt_iff_lt, ge_iff_le, Int.reduceGT, Int.reduceGE, Bool.false_and, Bool.and_false, Bool.true_and, Bool.and_true, ir73, eK, w, vpS B rfl, h]
def belongs (r s : Int) : Bool := decide (0 ≤ r) && decide (r < 4) && bit s r
theorem ConfOk.lens {c : Conf} (h : ConfOk c) : Lens c := by
  have h1 := h.z1
  have h2 := h.c1
  have h3 := h.t1
  have h4 := h.v1
  have h5 := h.ps
  have h6 := h.o1
  constructor <;> omega
def sumTo (f : Nat → Int) : Nat → Int
  | 0 => 0
  | k + 1 => sumTo f k + f k
theorem sumTo_bd {f : Nat → Int} {a b : Int} : ∀ {n : Nat}, (∀ i, i < n → a ≤ f i ∧ f i ≤ b) → a * n ≤ sumTo f n ∧ sumTo f n ≤ b * n
  | 0, _ => by simp [sumTo]
  | n + 1, h => by
    have h1 := sumTo_bd (n := n) (fun i hi => h i (by omega))
    have h2 := h n (by omega)
    simp only [sumTo]
    push_cast
    rw [Int.mul_add, Int.mul_add]
    omega
def b2i (b : Bool) : Int := if b = true then 1 else 0
def cntTo (p : Nat → Bool) (n : Nat) : Int := sumTo (fun i => b2i (p i)) n
theorem b2i_bd (b : Bool) : 0 ≤ b2i b ∧ b2i b ≤ 1 := by cases b <;> simp [b2i]
theorem cntTo_bd (p : Nat → Bool) (n : Nat) : 0 ≤ cntTo p n ∧ cntTo p n ≤ n := by
  have := sumTo_bd (f := fun i => b2i (p i)) (a := 0) (b := 1) (n := n) (fun i _ => b2i_bd _)
  unfold cntTo
  omega
/-- How many of the first k replicas stand outside of the lost regions. -/
def upTo (c : Conf) (s : Int) (k : Nat) : Int := cntTo (fun i => !belongs (regZ c (c.reps.getD i 0)) s) k
def major (c : Conf) (s : Int) : Bool := decide ((c.reps.length : Int) < 2 * upTo c s c.reps.length)
def L35 (c : Conf) (s : Int) (k : Nat) (w : VSt) : Prop := gt .bad w.E 1 = dI s ∧ gt .bad w.E 2 = .mp 2 1 0 0 ∧ hg w.H 2 = ⟨1, 0, true, [eK c]⟩ ∧ gt .bad w.E 9 = .sl (c.reps.map eI) ∧ gt .bad w.E 10 = dI (c.reps.length : Nat) ∧ gt .bad w.E 11 = dI (k : Nat) ∧ gt .bad w.E 5 = dI (upTo c s k) ∧ k ≤ c.reps.length
def Q35 (c : Conf) (s : Int) (e : Ex) (w : VSt) : Prop := e = .exit 0 ∧ gt .bad w.E 2 = .mp 2 1 0 0 ∧ hg w.H 2 = ⟨1, 0, true, [eK c]⟩ ∧ gt .bad w.E 5 = dI (upTo c s c.reps.length)
theorem major_l0 (c : Conf) (hc : Lens c) (s : Int) : ∀ k w, L35 c s k w → Ok (R PP shF 0 30 (.loop ir35_l0) w) (Q35 c s) := by
  refine Ok_up c.reps.length (L35 c s) fun k w hI => ?_
  obtain ⟨E, H⟩ := w
  obtain ⟨e1, e2, h2, e9, e10, e11, e5, hk⟩ := hI
  simp only at e1 e2 h2 e9 e10 e11 e5
  have hn := hc.p
  have w1 : IntKind.wrap .i64 ((k : Int) + 1) = ((k + 1 : Nat) : Int) := by rw [w64 (by omega) (by omega)]; rfl
  by_cases hlt : k < c.reps.length
  · have d1 : decide ((k : Int) < (c.reps.length : Int)) = true := by simp; omega
    have q1 : (k : Int) < (c.reps.length : Int) := by omega
    have q0 : (0 : Int) ≤ (k : Int) := by omega
    have g1 := getD_at (l := c.reps) (i := k) (d := 0) hlt
    have B1 := FV_region c hc (c.reps.getD k 0)
    have B2 := FV_belongs (regZ c (c.reps.getD k 0)) s
    rw [show (decide (0 ≤ regZ c (c.reps.getD k 0)) && decide (regZ c (c.reps.getD k 0) < 4) && bit s (regZ c (c.reps.getD k 0))) = belongs (regZ c (c.reps.getD k 0)) s from rfl] at B2
    have hu : upTo c s (k + 1) = upTo c s k + b2i (!belongs (regZ c (c.reps.getD k 0)) s) := rfl
    cases hb : belongs (regZ c (c.reps.getD k 0)) s with
    | true =>
      rw [hb] at B2 hu
      have hu : upTo c s (k + 1) = upTo c s k := by rw [hu]; simp [b2i]
      simp -implicitDefEqProofs only [go_sem, ↓reduceIte, Nat.reduceEqDiff, Nat.reduceAdd, Nat.reduceSub, Nat.reduceMul, Nat.reduceLeDiff, Nat.reduceLT, Nat.reduceBEq, Nat.reduceBNe, reduceCtorEq, beq_self_eq_true, Int.toNat_natCast, List.length_map, List.length_nil, Int.reduceToNat, Int.reduceAdd, Int.reduceSub, Int.reduceMul, Int.reduceLT, Int.reduceLE, Int.reduceEq, Int.reduceBEq, Int.reduceNeg, decide_true, decide_false, Nat.le_max_left, Nat.le_max_right, ne_eq, not_true_eq_false, not_false_eq_true, Int.natCast_zero, gt_iff_lt, ge_iff_le, Int.reduceGT, Int.reduceGE, Bool.false_and, Bool.and_false, Bool.true_and, Bool.and_true, ir35_l0, eK, e1, e2, h2, e9, e10, e11, e5, d1, w1, q0, q1, g1, vpS B1 rfl, vpS B2 rfl]
      refine .next hlt ⟨?_, ?_, ?_, ?_, ?_, ?_, ?_, by omega⟩ <;> simp -implicitDefEqProofs only [go_sem, ↓reduceIte, Nat.reduceEqDiff, Nat.reduceAdd, Nat.reduceSub, Nat.reduceMul, Nat.reduceLeDiff, Nat.reduceLT, Nat.reduceBEq, Nat.reduceBNe, reduceCtorEq, beq_self_eq_true, Int.toNat_natCast, List.length_map, List.length_nil, Int.reduceToNat, Int.reduceAdd, Int.reduceSub, Int.reduceMul, Int.reduceLT, Int.reduceLE, Int.reduceEq, Int.reduceBEq, Int.reduceNeg, decide_true, decide_false, Nat.le_max_left, Nat.le_max_right, ne_eq, not_true_eq_false, not_false_eq_true, Int.natCast_zero, gt_iff_lt, ge_iff_le, Int.reduceGT, Int.reduceGE, Bool.false_and, Bool.and_false, Bool.true_and, Bool.and_true, e1, e2, h2, e9, e10, e5, w1, hu, eK]
    | false =>
      rw [hb] at B2 hu
      have hu : upTo c s (k + 1) = upTo c s k + 1 := by rw [hu]; simp [b2i]
      have hbd := cntTo_bd (fun i => !belongs (regZ c (c.reps.getD i 0)) s) k
      have w2 : IntKind.wrap .i64 (upTo c s k + 1) = upTo c s k + 1 := by
        unfold upTo
        exact w64 (by omega) (by omega)
      simp -implicitDefEqProofs only [go_sem, ↓reduceIte, Nat.reduceEqDiff, Nat.reduceAdd, Nat.reduceSub, Nat.reduceMul, Nat.reduceLeDiff, Nat.reduceLT, Nat.reduceBEq, Nat.reduceBNe, reduceCtorEq, beq_self_eq_true, Int.toNat_natCast, List.length_map, List.length_nil, Int.reduceToNat, Int.reduceAdd, Int.reduceSub, Int.reduceMul, Int.reduceLT, Int.reduceLE, Int.reduceEq, Int.reduceBEq, Int.reduceNeg, decide_true, decide_false, Nat.le_max_left, Nat.le_max_right, ne_eq, not_true_eq_false, not_false_eq_true, Int.natCast_zero, gt_iff_lt, ge_iff_le, Int.reduceGT, Int.reduceGE, Bool.false_and, Bool.and_false, Bool.true_and, Bool.and_true, ir35_l0, eK, e1, e2, h2, e9, e10, e11, e5, d1, w1, q0, q1, g1, vpS B1 rfl, vpS B2 rfl, w2]
      refine .next hlt ⟨?_, ?_, ?_, ?_, ?_, ?_, ?_, by omega⟩ <;> simp -implicitDefEqProofs only [go_sem, ↓reduceIte, Nat.reduceEqDiff, Nat.reduceAdd, Nat.reduceSub, Nat.reduceMul, Nat.reduceLeDiff, Nat.reduceLT, Nat.reduceBEq, Nat.reduceBNe, reduceCtorEq, beq_self_eq_true, Int.toNat_natCast, List.length_map, List.length_nil, Int.reduceToNat, Int.reduceAdd, Int.reduceSub, Int.reduceMul, Int.reduceLT, Int.reduceLE, Int.reduceEq, Int.reduceBEq, Int.reduceNeg, decide_true, decide_false, Nat.le_max_left, Nat.le_max_right, ne_eq, not_true_eq_false, not_false_eq_true, Int.natCast_zero, gt_iff_lt, ge_iff_le, Int.reduceGT, Int.reduceGE, Bool.false_and, Bool.and_false, Bool.true_and, Bool.and_true, e1, e2, h2, e9, e10, w1, hu, eK]
  · have : k = c.reps.length := by omega
    subst this
    have d1 : decide ((c.reps.length : Int) < (c.reps.length : Int)) = false := by simp
    simp -implicitDefEqProofs only [go_sem, ↓reduceIte, Nat.reduceEqDiff, Nat.reduceAdd, Nat.reduceSub, Nat.reduceMul, Nat.reduceLeDiff, Nat.reduceLT, Nat.reduceBEq, Nat.reduceBNe, reduceCtorEq, beq_self_eq_true, Int.toNat_natCast, List.length_map, List.length_nil, Int.reduceToNat, Int.reduceAdd, Int.reduceSub, Int.reduceMul, Int.reduceLT, Int.reduceLE, Int.reduceEq, Int.reduceBEq, Int.reduceNeg, decide_true, decide_false, Nat.le_max_left, Nat.le_max_right, ne_eq, not_true_eq_false, not_false_eq_true, Int.natCast_zero, gt_iff_lt, ge_iff_le, Int.reduceGT, Int.reduceGE, Bool.false_and, Bool.and_false, Bool.true_and, Bool.and_true, ir35_l0, e10, e11, d1]
    refine .exit ⟨rfl, ?_, ?_, ?_⟩ <;> simp -implicitDefEqProofs only [go_sem, ↓reduceIte, Nat.reduceEqDiff, Nat.reduceAdd, Nat.reduceSub, Nat.reduceMul, Nat.reduceLeDiff, Nat.reduceLT, Nat.reduceBEq, Nat.reduceBNe, reduceCtorEq, beq_self_eq_true, Int.toNat_natCast, List.length_map, List.length_nil, Int.reduceToNat, Int.reduceAdd, Int.reduceSub, Int.reduceMul, Int.reduceLT, Int.reduceLE, Int.reduceEq, Int.reduceBEq, Int.reduceNeg, decide_true, decide_false, Nat.le_max_left, Nat.le_max_right, ne_eq, not_true_eq_false, not_false_eq_true, Int.natCast_zero, gt_iff_lt, ge_iff_le, Int.reduceGT, Int.reduceGE, Bool.false_and, Bool.and_false, Bool.true_and, Bool.and_true, e2, h2, e5]
theorem FV_Majority (c : Conf) (hc : Lens c) (s : Int) : FV PP shF 35 [.agg (eK c), dI s] = some (dB (major c s)) := by
  refine FV_ok (F_ok PP35 rfl ⟨by simp [ir35], by simp⟩ ?_)
  simp -implicitDefEqProofs only [go_sem, ↓reduceIte, Nat.reduceEqDiff, Nat.reduceAdd, Nat.reduceSub, Nat.reduceMul, Nat.reduceLeDiff, Nat.reduceLT, Nat.reduceBEq, Nat.reduceBNe, reduceCtorEq, beq_self_eq_true, Int.toNat_natCast, List.length_map, List.length_nil, Int.reduceToNat, Int.reduceAdd, Int.reduceSub, Int.reduceMul, Int.reduceLT, Int.reduceLE, Int.reduceEq, Int.reduceBEq, Int.reduceNeg, decide_true, decide_false, Nat.le_max_left, Nat.le_max_right, ne_eq, not_true_eq_false, not_false_eq_true, Int.natCast_zero, gt_iff_lt, ge_iff_le, Int.reduceGT, Int.reduceGE, Bool.false_and, Bool.and_false, Bool.true_and, Bool.and_true, ir35, eK]
  refine (major_l0 c hc s 0 _ ?_).mono ?_
  · refine ⟨?_, ?_, ?_, ?_, ?_, ?_, ?_, by omega⟩ <;> simp -implicitDefEqProofs only [go_sem, ↓reduceIte, Nat.reduceEqDiff, Nat.reduceAdd, Nat.reduceSub, Nat.reduceMul, Nat.reduceLeDiff, Nat.reduceLT, Nat.reduceBEq, Nat.reduceBNe, reduceCtorEq, beq_self_eq_true, Int.toNat_natCast, List.length_map, List.length_nil, Int.reduceToNat, Int.reduceAdd, Int.reduceSub, Int.reduceMul, Int.reduceLT, Int.reduceLE, Int.reduceEq, Int.reduceBEq, Int.reduceNeg, decide_true, decide_false, Nat.le_max_left, Nat.le_max_right, ne_eq, not_true_eq_false, not_false_eq_true, Int.natCast_zero, gt_iff_lt, ge_iff_le, Int.reduceGT, Int.reduceGE, Bool.false_and, Bool.and_false, Bool.true_and, Bool.and_true, eK, upTo, cntTo, sumTo]
  rintro e ⟨E, H⟩ ⟨rfl, e2, h2, e5⟩
  simp only at e2 h2 e5
  have hn := hc.p
  have hbd := cntTo_bd (fun i => !belongs (regZ c (c.reps.getD i 0)) s) c.reps.length
  have w2 : IntKind.wrap .i64 (2 * upTo c s c.reps.length) = 2 * upTo c s c.reps.length := by
    unfold upTo
    exact w64 (by omega) (by omega)
  simp -implicitDefEqProofs only [go_sem, ↓reduceIte, Nat.reduceEqDiff, Nat.reduceAdd, Nat.reduceSub, Nat.reduceMul, Nat.reduceLeDiff, Nat.reduceLT, Nat.reduceBEq, Nat.reduceBNe, reduceCtorEq, beq_self_eq_true, Int.toNat_natCast, List.length_map, List.length_nil, Int.reduceToNat, Int.reduceAdd, Int.reduceSub, Int.reduceMul, Int.reduceLT, Int.reduceLE, Int.reduceEq, Int.reduceBEq, Int.reduceNeg, decide_true, decide_false, Nat.le_max_left, Nat.le_max_right, ne_eq, not_true_eq_false, not_false_eq_true, Int.natCast_zero, gt_iff_lt, ge_iff_le, Int.reduceGT, Int.reduceGE, Bool.false_and, Bool.and_false, Bool.true_and, Bool.and_true, e2, h2, e5, eK, w2]
  rfl
theorem wu64 {n : Int} (h1 : 0 ≤ n) (h2 : n ≤ 9223372036854775807) : IntKind.wrap .u64 n = n := by
  simp [IntKind.wrap, IntKind.min, IntKind.max, IntKind.signed, IntKind.bits]; omega
theorem ConfOk.regZ {c : Conf} (h : ConfOk c) {z : Int} (h0 : 0 ≤ z) (h1 : z < c.zones.length) : 0 ≤ Cp.regZ c z ∧ Cp.regZ c z < c.regions := by
  unfold Cp.regZ
  rw [if_pos ⟨h0, h1⟩]
  have hg := getD_at (l := c.zones) (i := z.toNat) (d := 0) (by omega)
  exact h.zs _ (List.mem_of_getElem? hg)
theorem FV_run (k : Nat) {g : Nat} (h : (vmach PP shF k g [] [] 0).map (·.1) = some (dB true)) : FV PP shF g [] = some (dB true) := by
  simp only [Option.map_eq_some_iff] at h
  obtain ⟨⟨d, H⟩, h1, h2⟩ := h
  simp only at h2; subst h2
  exact FV_B (F_of k h1)
theorem FV_awake04 : FV PP shF 27 [] = some (dB true) := FV_run 60 (by kernel_rfl)
theorem bit_all8 : ∀ a b : Fin 8, ∀ r : Fin 3, bit (orI .i64 ((a.val : Nat) : Int) ((b.val : Nat) : Int)) ((r.val : Nat) : Int) = (bit ((a.val : Nat) : Int) ((r.val : Nat) : Int) || bit ((b.val : Nat) : Int) ((r.val : Nat) : Int)) := by decide +kernel
theorem bit_sub8 : ∀ a : Fin 8, ∀ R : Fin 4, ∀ r : Fin 3, ((a.val : Nat) : Int) ≤ allR ((R.val : Nat) : Int) → ((r.val : Nat) : Int) < ((R.val : Nat) : Int) → bit (allR ((R.val : Nat) : Int) - ((a.val : Nat) : Int)) ((r.val : Nat) : Int) = !bit ((a.val : Nat) : Int) ((r.val : Nat) : Int) := by decide +kernel
theorem fin_of {n : Nat} {a : Int} (h0 : 0 ≤ a) (h1 : a < n) : ∃ x : Fin n, a = ((x.val : Nat) : Int) := ⟨⟨a.toNat, by omega⟩, by simp; omega⟩
theorem bit_or {a b r : Int} (ha : 0 ≤ a ∧ a < 8) (hb : 0 ≤ b ∧ b < 8) (hr : 0 ≤ r ∧ r < 3) : bit (orI .i64 a b) r = (bit a r || bit b r) := by
  obtain ⟨x, rfl⟩ := fin_of (n := 8) ha.1 ha.2
  obtain ⟨y, rfl⟩ := fin_of (n := 8) hb.1 hb.2
  obtain ⟨z, rfl⟩ := fin_of (n := 3) hr.1 hr.2
  exact bit_all8 x y z
theorem bit_sub {a R r : Int} (hR : 0 ≤ R ∧ R ≤ 3) (ha : 0 ≤ a ∧ a ≤ allR R) (hr : 0 ≤ r ∧ r < R) : bit (allR R - a) r = !bit a r := by
  have h8 : allR R < 8 := by
    obtain rfl | rfl | rfl | rfl : R = 0 ∨ R = 1 ∨ R = 2 ∨ R = 3 := by omega
    all_goals decide
  obtain ⟨x, rfl⟩ := fin_of (n := 8) ha.1 (by omega)
  obtain ⟨y, rfl⟩ := fin_of (n := 4) hR.1 (by omega)
  obtain ⟨z, rfl⟩ := fin_of (n := 3) hr.1 (by omega)
  exact bit_sub8 x y z ha.2 hr.2
theorem bit_0 {r : Int} : bit 0 r = false := by simp [bit]
theorem allR_cases {R : Int} (h : 1 ≤ R ∧ R ≤ 3) : allR R = 1 ∨ allR R = 3 ∨ allR R = 7 := by
  obtain rfl | rfl | rfl : R = 1 ∨ R = 2 ∨ R = 3 := by omega
  · left; rfl
  · right; left; rfl
  · right; right; rfl
theorem shl_all {R : Int} (h : 1 ≤ R ∧ R ≤ 3) : IntKind.wrap .i64 (IntKind.wrap .i64 (1 * 2 ^ min R.toNat 64) - 1) = allR R := by
  obtain rfl | rfl | rfl : R = 1 ∨ R = 2 ∨ R = 3 := by omega
  · rfl
  · rfl
  · rfl
/-- The regions of replicas. -/
theorem ConfOk.rep {c : Conf} (hc : ConfOk c) {i : Nat} (hi : i < c.reps.length) : 0 ≤ Cp.regZ c (c.reps.getD i 0) ∧ Cp.regZ c (c.reps.getD i 0) < c.regions := by
  have hg := getD_at (l := c.reps) (i := i) (d := 0) hi
  have hb := hc.pz _ (List.mem_of_getElem? hg)
  exact hc.regZ hb.1 hb.2
theorem cntTo_succ (p : Nat → Bool) (n : Nat) : cntTo p (n + 1) = cntTo p n + b2i (p n) := rfl
theorem cntTo_zero (p : Nat → Bool) : cntTo p 0 = 0 := rfl
theorem cntTo_mono {p q : Nat → Bool} : ∀ {n : Nat}, (∀ i, i < n → p i = true → q i = true) → cntTo p n ≤ cntTo q n
  | 0, _ => by rw [cntTo_zero, cntTo_zero]; exact Int.le_refl _
  | n + 1, h => by
    have h1 := cntTo_mono (n := n) (fun i hi => h i (by omega))
    have h2 := h n (by omega)
    rw [cntTo_succ, cntTo_succ]
    have h3 := b2i_bd (q n)
    cases hp : p n with
    | false => simp only [b2i, Bool.false_eq_true, ↓reduceIte] at h3 ⊢; omega
    | true => rw [h2 hp]; omega
theorem cntTo_all {p : Nat → Bool} : ∀ {n : Nat}, (∀ i, i < n → p i = true) → cntTo p n = n
  | 0, _ => rfl
  | n + 1, h => by
    rw [cntTo_succ, cntTo_all (n := n) (fun i hi => h i (by omega)), h n (by omega)]
    simp [b2i]
theorem cntTo_none {p : Nat → Bool} : ∀ {n : Nat}, (∀ i, i < n → p i = false) → cntTo p n = 0
  | 0, _ => rfl
  | n + 1, h => by
    rw [cntTo_succ, cntTo_none (n := n) (fun i hi => h i (by omega)), h n (by omega)]
    simp [b2i]
theorem cntTo_not {p q : Nat → Bool} : ∀ {n : Nat}, (∀ i, i < n → q i = !p i) → cntTo p n + cntTo q n = n
  | 0, _ => rfl
  | n + 1, h => by
    have h1 := cntTo_not (n := n) (fun i hi => h i (by omega))
    rw [cntTo_succ, cntTo_succ, h n (by omega)]
    cases p n <;> simp [b2i] <;> omega
theorem belongs_bit {c : Conf} (hc : ConfOk c) {i : Nat} (hi : i < c.reps.length) (s : Int) : belongs (regZ c (c.reps.getD i 0)) s = bit s (regZ c (c.reps.getD i 0)) := by
  have h := hc.rep hi
  have h3 := hc.r1
  unfold belongs
  rw [decide_eq_true h.1, decide_eq_true (show regZ c (c.reps.getD i 0) < 4 by omega)]
  rfl
theorem major_0 {c : Conf} (hc : ConfOk c) : major c 0 = true := by
  have h : upTo c 0 c.reps.length = c.reps.length := cntTo_all fun i hi => by rw [belongs_bit hc hi, bit_0]; rfl
  have := hc.ps
  unfold major
  simp only [decide_eq_true_eq, h]
  omega
theorem major_all {c : Conf} (hc : ConfOk c) : major c (allR c.regions) = false := by
  have h : upTo c (allR c.regions) c.reps.length = 0 := cntTo_none fun i hi => by
    have hr := hc.rep hi
    have hb := bit_sub (a := 0) (R := c.regions) ⟨by have := hc.r0; omega, hc.r1⟩ ⟨by omega, by rcases allR_cases ⟨hc.r0, hc.r1⟩ with h | h | h <;> omega⟩ hr
    rw [Int.sub_zero, bit_0] at hb
    rw [belongs_bit hc hi, hb]; rfl
  unfold major
  simp only [decide_eq_false_iff_not, h]
  omega
theorem major_or {c : Conf} (hc : ConfOk c) {a b : Int} (ha : 0 ≤ a ∧ a < 8) (hb : 0 ≤ b ∧ b < 8) (h : major c (orI .i64 a b) = true) : major c a = true := by
  have hle : upTo c (orI .i64 a b) c.reps.length ≤ upTo c a c.reps.length := cntTo_mono fun i hi hp => by
    have hr := hc.rep hi
    have h3 := hc.r1
    rw [belongs_bit hc hi, bit_or ha hb ⟨hr.1, by omega⟩] at hp
    rw [belongs_bit hc hi]
    cases hh : bit a (regZ c (c.reps.getD i 0)) <;> simp_all
  unfold major at h ⊢
  simp only [decide_eq_true_eq] at h ⊢
  omega
theorem major_sub {c : Conf} (hc : ConfOk c) {a : Int} (ha : 0 ≤ a ∧ a ≤ allR c.regions) : major c (allR c.regions - a) = !major c a := by
  have hs : upTo c a c.reps.length + upTo c (allR c.regions - a) c.reps.length = c.reps.length := cntTo_not fun i hi => by
    rw [belongs_bit hc hi, belongs_bit hc hi, bit_sub ⟨by have := hc.r0; omega, hc.r1⟩ ha (hc.rep hi)]
  have := hc.ps
  unfold major
  rw [Bool.eq_iff_iff]
  simp only [Bool.not_eq_true', decide_eq_true_eq, decide_eq_false_iff_not]
  omega
theorem law_TopoMajority (l : List Int) (hl : I64s l) (lost : Int) (h1 : I64 lost) (more : Int) (h2 : I64 more) : OkF (F PP shF 7 [dL l, dI lost, dI more] [] 0) (fun d _ => d = dB true) := by
  refine F_ok PP7 rfl ⟨by simp [ir7], by simp⟩ ?_
  obtain ⟨c, hc, hF⟩ := FV_Config l hl
  have hR : 1 ≤ c.regions ∧ c.regions ≤ 3 := ⟨hc.r0, hc.r1⟩
  have hA := allR_cases hR
  have cu : IntKind.wrap .u64 c.regions = c.regions := wu64 (by omega) (by omega)
  have nr : ¬ c.regions < 0 := by omega
  have wA := shl_all hR
  have w1 : IntKind.wrap .i64 (allR c.regions + 1) = allR c.regions + 1 := w64 (by omega) (by omega)
  have M1 := FV_Mod lost (allR c.regions + 1) h1 (by omega) (by omega)
  have M2 := FV_Mod more (allR c.regions + 1) h2 (by omega) (by omega)
  have a0 := Int.emod_nonneg lost (show allR c.regions + 1 ≠ 0 by omega)
  have a1 := Int.emod_lt_of_pos lost (show 0 < allR c.regions + 1 by omega)
  have b0 := Int.emod_nonneg more (show allR c.regions + 1 ≠ 0 by omega)
  have b1 := Int.emod_lt_of_pos more (show 0 < allR c.regions + 1 by omega)
  generalize lost % (allR c.regions + 1) = a at *
  generalize more % (allR c.regions + 1) = b at *
  have w2 : IntKind.wrap .i64 (allR c.regions - a) = allR c.regions - a := w64 (by omega) (by omega)
  have J1 := FV_Majority c hc.lens 0
  rw [major_0 hc] at J1
  have J2 := FV_Majority c hc.lens (allR c.regions)
  rw [major_all hc] at J2
  have J3 := FV_Majority c hc.lens (orI .i64 a b)
  have J4 := FV_Majority c hc.lens a
  have J5 := FV_Majority c hc.lens (allR c.regions - a)
  rw [major_sub hc ⟨a0, by omega⟩] at J5
  have hor := major_or hc (a := a) (b := b) ⟨a0, by omega⟩ ⟨b0, by omega⟩
  by_cases hlen : l.length ≤ 200
  · have L := FV_Light l
    rw [decide_eq_true hlen] at L
    cases hma : major c a with
    | true =>
      rw [hma] at J4 J5
      cases hmb : major c (orI .i64 a b) <;> rw [hmb] at J3 <;>
      (simp -implicitDefEqProofs only [go_sem, ↓reduceIte, Nat.reduceEqDiff, Nat.reduceAdd, Nat.reduceSub, Nat.reduceMul, Nat.reduceLeDiff, Nat.reduceLT, Nat.reduceBEq, Nat.reduceBNe, reduceCtorEq, beq_self_eq_true, Int.toNat_natCast, List.length_map, List.length_nil, Int.reduceToNat, Int.reduceAdd, Int.reduceSub, Int.reduceMul, Int.reduceLT, Int.reduceLE, Int.reduceEq, Int.reduceBEq, Int.reduceNeg, decide_true, decide_false, Nat.le_max_left, Nat.le_max_right, ne_eq, not_true_eq_false, not_false_eq_true, Int.natCast_zero, gt_iff_lt, ge_iff_le, Int.reduceGT, Int.reduceGE, Bool.false_and, Bool.and_false, Bool.true_and, Bool.and_true, ir7, vpS L rfl, vpL hF rfl, eK, cu, nr, wA, w1, w2, vpS M1 rfl, vpS M2 rfl, vpS FV_awake04 rfl, vpS J1 rfl, vpS J2 rfl, vpS J3 rfl, vpS J4 rfl, vpS J5 rfl]; rfl)
    | false =>
      rw [hma] at J4 J5
      have hmb : major c (orI .i64 a b) = false := by
        cases h : major c (orI .i64 a b) with
        | false => rfl
        | true => rw [hor h] at hma; cases hma
      rw [hmb] at J3
      simp -implicitDefEqProofs only [go_sem, ↓reduceIte, Nat.reduceEqDiff, Nat.reduceAdd, Nat.reduceSub, Nat.reduceMul, Nat.reduceLeDiff, Nat.reduceLT, Nat.reduceBEq, Nat.reduceBNe, reduceCtorEq, beq_self_eq_true, Int.toNat_natCast, List.length_map, List.length_nil, Int.reduceToNat, Int.reduceAdd, Int.reduceSub, Int.reduceMul, Int.reduceLT, Int.reduceLE, Int.reduceEq, Int.reduceBEq, Int.reduceNeg, decide_true, decide_false, Nat.le_max_left, Nat.le_max_right, ne_eq, not_true_eq_false, not_false_eq_true, Int.natCast_zero, gt_iff_lt, ge_iff_le, Int.reduceGT, Int.reduceGE, Bool.false_and, Bool.and_false, Bool.true_and, Bool.and_true, ir7, vpS L rfl, vpL hF rfl, eK, cu, nr, wA, w1, w2, vpS M1 rfl, vpS M2 rfl, vpS FV_awake04 rfl, vpS J1 rfl, vpS J2 rfl, vpS J3 rfl, vpS J4 rfl, vpS J5 rfl]
      rfl
  · have L := FV_Light l
    rw [decide_eq_false hlen] at L
    simp -implicitDefEqProofs only [go_sem, ↓reduceIte, Nat.reduceEqDiff, Nat.reduceAdd, Nat.reduceSub, Nat.reduceMul, Nat.reduceLeDiff, Nat.reduceLT, Nat.reduceBEq, Nat.reduceBNe, reduceCtorEq, beq_self_eq_true, Int.toNat_natCast, List.length_map, List.length_nil, Int.reduceToNat, Int.reduceAdd, Int.reduceSub, Int.reduceMul, Int.reduceLT, Int.reduceLE, Int.reduceEq, Int.reduceBEq, Int.reduceNeg, decide_true, decide_false, Nat.le_max_left, Nat.le_max_right, ne_eq, not_true_eq_false, not_false_eq_true, Int.natCast_zero, gt_iff_lt, ge_iff_le, Int.reduceGT, Int.reduceGE, Bool.false_and, Bool.and_false, Bool.true_and, Bool.and_true, ir7, vpS L rfl, vpS FV_awake04 rfl]
end Go.Proofs.Cp
