/- What the functions answer (part 0). -/
import Derived.Test.YtjgijnimbnielaaPP
set_option linter.unusedSimpArgs false
set_option linter.unusedVariables false
set_option maxRecDepth 100000
namespace Go.Proofs.Cp
open Go
theorem FV_of {P : Prog} {sh : Nat → Bool} {g : Nat} {args : List DV} {d e : DV} {H : VHeap} (h : F P sh g args [] 0 = some (d, H)) (hd : frzD H 6 d = some e) : FV P sh g args = some e := by
  unfold FV; rw [h]; exact hd
theorem FV_I {P : Prog} {sh : Nat → Bool} {g : Nat} {args : List DV} {n : Int} {H : VHeap} (h : F P sh g args [] 0 = some (dI n, H)) : FV P sh g args = some (dI n) := FV_of h rfl
theorem FV_B {P : Prog} {sh : Nat → Bool} {g : Nat} {args : List DV} {b : Bool} {H : VHeap} (h : F P sh g args [] 0 = some (dB b, H)) : FV P sh g args = some (dB b) := FV_of h rfl
theorem hs_self {H : VHeap} {b : Nat} (hb : b < H.length) : hs H b (hg H b) = H := by
  apply VHeap.ext'
  · rw [hs_len]; omega
  · intro c
    rw [hg_hs]; split
    · rename_i h; rw [h]
    · rfl
theorem hs_hs (H : VHeap) (b : Nat) (x y : VB) : hs (hs H b x) b y = hs H b y := by
  apply VHeap.ext'
  · rw [hs_len, hs_len, hs_len]; omega
  · intro c
    rw [hg_hs, hg_hs, hg_hs]; split <;> rfl
theorem hg_lt {H : VHeap} {b : Nat} (h : (hg H b).live = true) : b < H.length := by
  rcases Nat.lt_or_ge b H.length with h1 | h1
  · exact h1
  · rw [hg_ge H h1] at h; cases h
/-- A whole number of 64 bits. -/
def I64 (x : Int) : Prop := -9223372036854775808 ≤ x ∧ x ≤ 9223372036854775807
def I64s (l : List Int) : Prop := ∀ x, x ∈ l → I64 x

theorem F_Mod (v n : Int) (hv : I64 v) (h3 : 0 < n) (h4 : n ≤ 4611686018427387904) : F PP shF 16 [dI v, dI n] [] 0 = some (dI (v % n), []) := by
  obtain ⟨h1, h2⟩ := hv
  rw [F_fun PP16 rfl ⟨by simp [ir16], by simp⟩]
  have hn : n ≠ 0 := by omega
  simp -implicitDefEqProofs only [go_sem, ↓reduceIte, Nat.reduceEqDiff, Nat.reduceAdd, Nat.reduceSub, Nat.reduceMul, Nat.reduceLeDiff, Nat.reduceLT, Nat.reduceBEq, Nat.reduceBNe, reduceCtorEq, beq_self_eq_true, Int.toNat_natCast, List.length_map, List.length_nil, Int.reduceToNat, Int.reduceAdd, Int.reduceSub, Int.reduceMul, Int.reduceLT, Int.reduceLE, Int.reduceEq, Int.reduceBEq, Int.reduceNeg, decide_true, decide_false, Nat.le_max_left, Nat.le_max_right, ne_eq, not_true_eq_false, not_false_eq_true, Int.natCast_zero, gt_iff_lt, ge_iff_le, Int.reduceGT, Int.reduceGE, Bool.false_and, Bool.and_false, Bool.true_and, Bool.and_true, ir16, if_neg hn]
  have hlt := Int.tmod_lt_of_pos v h3
  have hge : -n < v.tmod n := by
    have := Int.lt_tmod_of_pos v h3
    exact this
  rw [w64 (by omega) (by omega)]
  congr 4
  rcases Int.le_total 0 v with h | h
  · rw [Int.tmod_eq_emod_of_nonneg h, Int.tmod_eq_emod_of_nonneg (by have := Int.emod_nonneg v hn; omega)]
    simp
  · rw [Int.tmod_eq_emod_of_nonneg (by omega)]
    rw [Int.tmod_eq_emod]
    split
    · simp
    · have : (n.natAbs : Int) = n := by omega
      simp [this, Int.sub_add_cancel]
theorem FV_Mod (v n : Int) (hv : I64 v) (h3 : 0 < n) (h4 : n ≤ 4611686018427387904) : FV PP shF 16 [dI v, dI n] = some (dI (v % n)) := FV_of (F_Mod v n hv h3 h4) rfl
theorem FV_Between (v low high : Int) (hv : I64 v) (h0 : -1000000000 ≤ low) (h1 : low ≤ high) (h2 : high ≤ 1000000000) : FV PP shF 15 [dI v, dI low, dI high] = some (dI (low + v % (high - low + 1))) := by
  refine FV_I (H := []) ?_
  rw [F_fun PP15 rfl ⟨by simp [ir15], by simp⟩]
  have e1 : IntKind.wrap .i64 (high - low) = high - low := w64 (by omega) (by omega)
  have e2 : IntKind.wrap .i64 (high - low + 1) = high - low + 1 := w64 (by omega) (by omega)
  have hm := Int.emod_lt_of_pos v (show 0 < high - low + 1 by omega)
  have hm0 := Int.emod_nonneg v (show high - low + 1 ≠ 0 by omega)
  have e3 : IntKind.wrap .i64 (low + v % (high - low + 1)) = low + v % (high - low + 1) := w64 (by omega) (by omega)
  simp -implicitDefEqProofs only [go_sem, ↓reduceIte, Nat.reduceEqDiff, Nat.reduceAdd, Nat.reduceSub, Nat.reduceMul, Nat.reduceLeDiff, Nat.reduceLT, Nat.reduceBEq, Nat.reduceBNe, reduceCtorEq, beq_self_eq_true, Int.toNat_natCast, List.length_map, List.length_nil, Int.reduceToNat, Int.reduceAdd, Int.reduceSub, Int.reduceMul, Int.reduceLT, Int.reduceLE, Int.reduceEq, Int.reduceBEq, Int.reduceNeg, decide_true, decide_false, Nat.le_max_left, Nat.le_max_right, ne_eq, not_true_eq_false, not_false_eq_true, Int.natCast_zero, gt_iff_lt, ge_iff_le, Int.reduceGT, Int.reduceGE, Bool.false_and, Bool.and_false, Bool.true_and, Bool.and_true, ir15, e1, e2, vpS (FV_Mod _ _ hv (show 0 < high - low + 1 by omega) (by omega)) rfl, e3]
theorem FV_Light (l : List Int) : FV PP shF 11 [dL l] = some (dB (decide (l.length ≤ 200))) := by
  refine FV_B (H := []) ?_
  rw [F_fun PP11 rfl ⟨by simp [ir11], by simp⟩]
  simp only [ir11, go_sem, ↓reduceIte, Nat.reduceEqDiff, reduceCtorEq, List.length_map]
  simp
  omega

/-- A tape. -/
abbrev tapeB (ver : Nat) (L : List Int) (i : Nat) : VB := ⟨ver, 0, true, [[dL L, dI (i : Nat)]]⟩
theorem Next_ex (L : List Int) (i : Nat) (n : Int) (hL : I64s L) (hi : i < 1000000000) (h0 : 0 < n) (hn : n ≤ 1073741824) :
    ∃ (v : Int) (i' : Nat), 0 ≤ v ∧ v < n ∧ i ≤ i' ∧ i' ≤ i + 1 ∧ ∀ (H : VHeap) (b ver base : Nat), hg H b = tapeB ver L i → H.length ≤ base →
      F PP shF 50 [.mp b ver 0 0, dI n] H base = some (dI v, hs H b (tapeB ver L i')) := by
  by_cases hL0 : L = []
  · subst hL0
    refine ⟨0, i, by omega, h0, by omega, by omega, fun H b ver base hb hbase => ?_⟩
    have hself : hs H b (tapeB ver [] i) = H := by rw [← hb]; exact hs_self (hg_lt (by rw [hb]))
    rw [F_fun PP50 rfl ⟨by simp [ir50], by simpa using hbase⟩, hself]
    simp -implicitDefEqProofs only [go_sem, ↓reduceIte, Nat.reduceEqDiff, Nat.reduceAdd, Nat.reduceSub, Nat.reduceMul, Nat.reduceLeDiff, Nat.reduceLT, Nat.reduceBEq, Nat.reduceBNe, reduceCtorEq, beq_self_eq_true, Int.toNat_natCast, List.length_map, List.length_nil, Int.reduceToNat, Int.reduceAdd, Int.reduceSub, Int.reduceMul, Int.reduceLT, Int.reduceLE, Int.reduceEq, Int.reduceBEq, Int.reduceNeg, decide_true, decide_false, Nat.le_max_left, Nat.le_max_right, ne_eq, not_true_eq_false, not_false_eq_true, Int.natCast_zero, gt_iff_lt, ge_iff_le, Int.reduceGT, Int.reduceGE, Bool.false_and, Bool.and_false, Bool.true_and, Bool.and_true, ir50, hb, List.map_nil]
  · have hl : L.length ≠ 0 := by cases L <;> simp_all
    have e1 : ((L.length : Int) == 0) = false := by simp; exact hL0
    have e2 : ¬ (L.length : Int) = 0 := by omega
    have e3 : (i : Int).tmod L.length = ((i % L.length : Nat) : Int) := by rw [Int.tmod_eq_emod_of_nonneg (by omega)]; rfl
    have e4 : (i : Int).tdiv L.length = ((i / L.length : Nat) : Int) := by rw [Int.tdiv_eq_ediv_of_nonneg (by omega)]; rfl
    have hlt : i % L.length < L.length := Nat.mod_lt _ (by omega)
    have e5 : (0 : Int) ≤ ((i % L.length : Nat) : Int) ∧ ((i % L.length : Nat) : Int) < (L.length : Int) := by omega
    have e6 : (L.map fun z => [dI z])[i % L.length]? = some [dI (L.getD (i % L.length) 0)] := by
      rw [List.getElem?_map, List.getElem?_eq_getElem hlt]; simp [List.getD_eq_getElem?_getD, List.getElem?_eq_getElem hlt]
    have hd : i / L.length ≤ i := Nat.div_le_self _ _
    have e7 : IntKind.wrap .i64 ((i : Int) + 1) = ((i + 1 : Nat) : Int) := by rw [w64 (by omega) (by omega)]; rfl
    have hx := hL (L.getD (i % L.length) 0) (by rw [List.getD_eq_getElem?_getD, List.getElem?_eq_getElem hlt]; exact List.getElem_mem hlt)
    refine ⟨((L.getD (i % L.length) 0) % 1073741824 + ((i / L.length : Nat) : Int) * 7) % n, i + 1, Int.emod_nonneg _ (by omega), Int.emod_lt_of_pos _ h0, by omega, by omega, fun H b ver base hb hbase => ?_⟩
    rw [F_fun PP50 rfl ⟨by simp [ir50], by simpa using hbase⟩]
    generalize i / L.length = q at *
    have e10 : IntKind.wrap .i64 (q : Int) = (q : Int) := w64 (by omega) (by omega)
    have e8 : IntKind.wrap .i64 ((q : Int) * 7) = (q : Int) * 7 := w64 (by omega) (by omega)
    have hm := Int.emod_lt_of_pos (L.getD (i % L.length) 0) (show (0 : Int) < 1073741824 by omega)
    have hm0 := Int.emod_nonneg (L.getD (i % L.length) 0) (show (1073741824 : Int) ≠ 0 by omega)
    have e9 : IntKind.wrap .i64 ((L.getD (i % L.length) 0) % 1073741824 + (q : Int) * 7) = (L.getD (i % L.length) 0) % 1073741824 + (q : Int) * 7 := w64 (by omega) (by omega)
    simp -implicitDefEqProofs only [go_sem, ↓reduceIte, Nat.reduceEqDiff, Nat.reduceAdd, Nat.reduceSub, Nat.reduceMul, Nat.reduceLeDiff, Nat.reduceLT, Nat.reduceBEq, Nat.reduceBNe, reduceCtorEq, beq_self_eq_true, Int.toNat_natCast, List.length_map, List.length_nil, Int.reduceToNat, Int.reduceAdd, Int.reduceSub, Int.reduceMul, Int.reduceLT, Int.reduceLE, Int.reduceEq, Int.reduceBEq, Int.reduceNeg, decide_true, decide_false, Nat.le_max_left, Nat.le_max_right, ne_eq, not_true_eq_false, not_false_eq_true, Int.natCast_zero, gt_iff_lt, ge_iff_le, Int.reduceGT, Int.reduceGE, Bool.false_and, Bool.and_false, Bool.true_and, Bool.and_true, ir50, hb, reduceCtorEq, e1, e2, e3, e4, e5, e6, e7, e8, e9, e10, Int.toNat_natCast, List.length_map,
      vpS (FV_Mod _ _ hx (show (0 : Int) < 1073741824 by omega) (by omega)) rfl, vpS (FV_Mod ((L.getD (i % L.length) 0) % 1073741824 + (q : Int) * 7) n ⟨by omega, by omega⟩ h0 (by omega)) rfl]
theorem Range_ex (L : List Int) (i : Nat) (low high : Int) (hL : I64s L) (hi : i < 1000000000) (hl : -1000 ≤ low) (h0 : low ≤ high) (hn : high ≤ 1073740000) :
    ∃ (v : Int) (i' : Nat), low ≤ v ∧ v ≤ high ∧ i ≤ i' ∧ i' ≤ i + 1 ∧ ∀ (H : VHeap) (b ver base : Nat), hg H b = tapeB ver L i → H.length ≤ base →
      F PP shF 61 [.mp b ver 0 0, dI low, dI high] H base = some (dI v, hs H b (tapeB ver L i')) := by
  obtain ⟨v, i', h1, h2, h3, h4, h5⟩ := Next_ex L i (high - low + 1) hL hi (by omega) (by omega)
  refine ⟨low + v, i', by omega, by omega, h3, h4, fun H b ver base hb hbase => ?_⟩
  have e1 : IntKind.wrap .i64 (high - low) = high - low := w64 (by omega) (by omega)
  have e2 : IntKind.wrap .i64 (high - low + 1) = high - low + 1 := w64 (by omega) (by omega)
  have e3 : IntKind.wrap .i64 (low + v) = low + v := w64 (by omega) (by omega)
  rw [F_fun PP61 rfl ⟨by simp [ir61], by simpa using hbase⟩]
  simp -implicitDefEqProofs only [go_sem, ↓reduceIte, Nat.reduceEqDiff, Nat.reduceAdd, Nat.reduceSub, Nat.reduceMul, Nat.reduceLeDiff, Nat.reduceLT, Nat.reduceBEq, Nat.reduceBNe, reduceCtorEq, beq_self_eq_true, Int.toNat_natCast, List.length_map, List.length_nil, Int.reduceToNat, Int.reduceAdd, Int.reduceSub, Int.reduceMul, Int.reduceLT, Int.reduceLE, Int.reduceEq, Int.reduceBEq, Int.reduceNeg, decide_true, decide_false, Nat.le_max_left, Nat.le_max_right, ne_eq, not_true_eq_false, not_false_eq_true, Int.natCast_zero, gt_iff_lt, ge_iff_le, Int.reduceGT, Int.reduceGE, Bool.false_and, Bool.and_false, Bool.true_and, Bool.and_true, ir61, hb, e1, e2, h5, e3]
theorem Yes_ex (L : List Int) (i : Nat) (n : Int) (hL : I64s L) (hi : i < 1000000000) (h0 : 0 < n) (hn : n ≤ 1073741824) :
    ∃ (v : Bool) (i' : Nat), i ≤ i' ∧ i' ≤ i + 1 ∧ ∀ (H : VHeap) (b ver base : Nat), hg H b = tapeB ver L i → H.length ≤ base →
      F PP shF 62 [.mp b ver 0 0, dI n] H base = some (dB v, hs H b (tapeB ver L i')) := by
  obtain ⟨v, i', h1, h2, h3, h4, h5⟩ := Next_ex L i n hL hi h0 hn
  refine ⟨v == 0, i', h3, h4, fun H b ver base hb hbase => ?_⟩
  rw [F_fun PP62 rfl ⟨by simp [ir62], by simpa using hbase⟩]
  simp -implicitDefEqProofs only [go_sem, ↓reduceIte, Nat.reduceEqDiff, Nat.reduceAdd, Nat.reduceSub, Nat.reduceMul, Nat.reduceLeDiff, Nat.reduceLT, Nat.reduceBEq, Nat.reduceBNe, reduceCtorEq, beq_self_eq_true, Int.toNat_natCast, List.length_map, List.length_nil, Int.reduceToNat, Int.reduceAdd, Int.reduceSub, Int.reduceMul, Int.reduceLT, Int.reduceLE, Int.reduceEq, Int.reduceBEq, Int.reduceNeg, decide_true, decide_false, Nat.le_max_left, Nat.le_max_right, ne_eq, not_true_eq_false, not_false_eq_true, Int.natCast_zero, gt_iff_lt, ge_iff_le, Int.reduceGT, Int.reduceGE, Bool.false_and, Bool.and_false, Bool.true_and, Bool.and_true, ir62, hb, h5]
/-- A new tape: one block. -/
theorem F_New (L : List Int) : F PP shF 48 [dL L] [] 0 = some (.mp 5 1 0 0, hs [] 5 (tapeB 1 L 0)) := by
  rw [F_fun PP48 rfl ⟨by simp [ir48], by simp⟩]
  simp -implicitDefEqProofs only [go_sem, ↓reduceIte, Nat.reduceEqDiff, Nat.reduceAdd, Nat.reduceSub, Nat.reduceMul, Nat.reduceLeDiff, Nat.reduceLT, Nat.reduceBEq, Nat.reduceBNe, reduceCtorEq, beq_self_eq_true, Int.toNat_natCast, List.length_map, List.length_nil, Int.reduceToNat, Int.reduceAdd, Int.reduceSub, Int.reduceMul, Int.reduceLT, Int.reduceLE, Int.reduceEq, Int.reduceBEq, Int.reduceNeg, decide_true, decide_false, Nat.le_max_left, Nat.le_max_right, ne_eq, not_true_eq_false, not_false_eq_true, Int.natCast_zero, gt_iff_lt, ge_iff_le, Int.reduceGT, Int.reduceGE, Bool.false_and, Bool.and_false, Bool.true_and, Bool.and_true, ir48]
  rfl
theorem vp_New (L : List Int) (base d : Nat) (H : VHeap) : vpure PP shF base (some d) 48 true false H [dL L] = some (.mp (base + d) ((hg H (base + d)).ver + 1) 0 0, some (hs H (base + d) (tapeB ((hg H (base + d)).ver + 1) L 0))) := by
  unfold vpure
  rw [F_New]
  simp -implicitDefEqProofs only [go_sem, ↓reduceIte, Nat.reduceEqDiff, Nat.reduceAdd, Nat.reduceSub, Nat.reduceMul, Nat.reduceLeDiff, Nat.reduceLT, Nat.reduceBEq, Nat.reduceBNe, reduceCtorEq, beq_self_eq_true, Int.toNat_natCast, List.length_map, List.length_nil, Int.reduceToNat, Int.reduceAdd, Int.reduceSub, Int.reduceMul, Int.reduceLT, Int.reduceLE, Int.reduceEq, Int.reduceBEq, Int.reduceNeg, decide_true, decide_false, Nat.le_max_left, Nat.le_max_right, ne_eq, not_true_eq_false, not_false_eq_true, Int.natCast_zero, gt_iff_lt, ge_iff_le, Int.reduceGT, Int.reduceGE, Bool.false_and, Bool.and_false, Bool.true_and, Bool.and_true, vback]
  rfl
structure Cell where
  zone : Int
  cap : Int
structure Ten where
  load : Int
  shadow : Int
  prio : Int
  lag : Int
  allowed : Int
  group : Int
  noisy : Bool
structure Ver where
  low : Int
  high : Int
structure Conf where
  regions : Int
  zones : List Int
  cells : List Cell
  tens : List Ten
  vers : List Ver
  reps : List Int
  obs : List Int
  blast : Int
  lease : Int
  bake : Int
abbrev eI (z : Int) : List DV := [dI z]
abbrev eC (c : Cell) : List DV := [dI c.zone, dI c.cap]
abbrev eT (t : Ten) : List DV := [dI t.load, dI t.shadow, dI t.prio, dI t.lag, dI t.allowed, dI t.group, dB t.noisy]
abbrev eV (v : Ver) : List DV := [dI v.low, dI v.high]
abbrev eK (c : Conf) : List DV := [dI c.regions, .sl (c.zones.map eI), .sl (c.cells.map eC), .sl (c.tens.map eT), .sl (c.vers.map eV), .sl (c.reps.map eI), .sl (c.obs.map eI), dI c.blast, dI c.lease, dI c.bake]
/-- Where Config stands. -/
structure CS (L : List Int) (s : VSt) (i : Nat) (r bl le ba : Int) (zv cv tv vv rv ov : DV) : Prop where
  e2 : gt .bad s.E 2 = .mp 2 1 0 0
  e3 : gt .bad s.E 3 = .mp 15 1 0 0
  e4 : gt .bad s.E 4 = .mp 4 1 0 0
  h2 : hg s.H 2 = ⟨1, 0, true, [[dI 0, .lit (.slice none 0 0), .lit (.slice none 0 0), .lit (.slice none 0 0), .lit (.slice none 0 0), .lit (.slice none 0 0), .lit (.slice none 0 0), dI 0, dI 0, dI 0]]⟩
  h4 : hg s.H 4 = ⟨1, 0, true, [[dI r, zv, cv, tv, vv, rv, ov, dI bl, dI le, dI ba]]⟩
  h15 : hg s.H 15 = tapeB 1 L i
  hi : i < 100000
/-- The zones: k of them are made. -/
def L0 (L : List Int) (r bl le ba : Int) (k : Nat) (s : VSt) : Prop := ∃ (zs : List Int) (i : Nat) (zv : DV), CS L s i r bl le ba zv (.lit (.slice none 0 0)) (.lit (.slice none 0 0)) (.lit (.slice none 0 0)) (.lit (.slice none 0 0)) (.lit (.slice none 0 0)) ∧
  SlB s.H 49 1 (zs.map eI) zv ∧ i ≤ 10 + k ∧ gt .bad s.E 5 = dI (k : Nat) ∧ zs.length = k ∧ k ≤ 6 ∧ ∀ z, z ∈ zs → 0 ≤ z ∧ z < r
def Q0 (L : List Int) (r bl le ba : Int) (e : Ex) (s : VSt) : Prop := e = .exit 0 ∧ ∃ (zs : List Int) (i : Nat) (zv : DV), CS L s i r bl le ba zv (.lit (.slice none 0 0)) (.lit (.slice none 0 0)) (.lit (.slice none 0 0)) (.lit (.slice none 0 0)) (.lit (.slice none 0 0)) ∧
  SlB s.H 49 1 (zs.map eI) zv ∧ i ≤ 20 ∧ r ≤ (zs.length : Int) ∧ zs.length ≤ 6 ∧ ∀ z, z ∈ zs → 0 ≤ z ∧ z < r
theorem config_l0 (L : List Int) (hL : I64s L) (r bl le ba : Int) (hr : 1 ≤ r ∧ r ≤ 3) : ∀ (k : Nat) s, L0 L r bl le ba k s → Ok (R PP shF 0 182 (.loop ir28_l0) s) (Q0 L r bl le ba) := by
  refine Ok_up 6 (L0 L r bl le ba) fun k s hI => ?_
  obtain ⟨zs, i, zv, C, hz, hi, e5, len, hk, rg⟩ := hI
  obtain ⟨v, i', hv1, hv2, hF⟩ := Yes_ex L i 3 hL (by have := C.hi; omega) (by omega) (by omega)
  obtain ⟨E, H⟩ := s
  obtain ⟨e2, e3, e4, h2, h4, h15, hi0⟩ := C
  simp only at e2 e3 e4 h2 h4 h15 e5 hz
  have w1 : IntKind.wrap .i64 ((k : Int) + 1) = ((k + 1 : Nat) : Int) := by rw [w64 (by omega) (by omega)]; rfl
  have hr0 : ¬ r = 0 := by omega
  have hm : ∀ z, z ∈ zs ++ [(k : Int).tmod r] → 0 ≤ z ∧ z < r := by
    intro z hz
    rcases List.mem_append.1 hz with hz | hz
    · exact rg z hz
    · simp at hz; subst hz
      exact ⟨Int.tmod_nonneg _ (by omega), Int.tmod_lt_of_pos _ (by omega)⟩
  have c1 : ¬ zs.length + 1 ≤ zs.length := by omega
  have c2 : (zs.length + 1) * 8 ≤ 140737488355328 ∧ zs.length ≤ 9223372036854775806 := by omega
  have ht : List.take zs.length (zs.map eI) = zs.map eI := List.take_of_length_le (by simp)
  by_cases hlt : (k : Int) < r
  · have d1 : decide ((k : Int) < r) = true := by simpa using hlt
    rcases hz with ⟨hz, rfl⟩ | ⟨hz, ver, rfl, hb⟩
    · simp -implicitDefEqProofs only [go_sem, ↓reduceIte, Nat.reduceEqDiff, Nat.reduceAdd, Nat.reduceSub, Nat.reduceMul, Nat.reduceLeDiff, Nat.reduceLT, Nat.reduceBEq, Nat.reduceBNe, reduceCtorEq, beq_self_eq_true, Int.toNat_natCast, List.length_map, List.length_nil, Int.reduceToNat, Int.reduceAdd, Int.reduceSub, Int.reduceMul, Int.reduceLT, Int.reduceLE, Int.reduceEq, Int.reduceBEq, Int.reduceNeg, decide_true, decide_false, Nat.le_max_left, Nat.le_max_right, ne_eq, not_true_eq_false, not_false_eq_true, Int.natCast_zero, gt_iff_lt, ge_iff_le, Int.reduceGT, Int.reduceGE, Bool.false_and, Bool.and_false, Bool.true_and, Bool.and_true, ir28_l0, e2, e3, e4, e5, h2, h4, h15, d1, w1, hr0]
      refine .next (by omega) ⟨zs ++ [(k : Int).tmod r], i, .ms 49 ((hg H 49).ver + 1) 0 1 1, ⟨?_, ?_, ?_, ?_, ?_, ?_, hi0⟩, SlB.mk ?_ ?_ ?_, by omega, ?_, by simp [len], by omega, hm⟩ <;> simp -implicitDefEqProofs only [go_sem, ↓reduceIte, Nat.reduceEqDiff, Nat.reduceAdd, Nat.reduceSub, Nat.reduceMul, Nat.reduceLeDiff, Nat.reduceLT, Nat.reduceBEq, Nat.reduceBNe, reduceCtorEq, beq_self_eq_true, Int.toNat_natCast, List.length_map, List.length_nil, Int.reduceToNat, Int.reduceAdd, Int.reduceSub, Int.reduceMul, Int.reduceLT, Int.reduceLE, Int.reduceEq, Int.reduceBEq, Int.reduceNeg, decide_true, decide_false, Nat.le_max_left, Nat.le_max_right, ne_eq, not_true_eq_false, not_false_eq_true, Int.natCast_zero, gt_iff_lt, ge_iff_le, Int.reduceGT, Int.reduceGE, Bool.false_and, Bool.and_false, Bool.true_and, Bool.and_true, e2, e3, e4, e5, h2, h4, h15, w1, List.map_append, hz]
    · simp -implicitDefEqProofs only [go_sem, ↓reduceIte, Nat.reduceEqDiff, Nat.reduceAdd, Nat.reduceSub, Nat.reduceMul, Nat.reduceLeDiff, Nat.reduceLT, Nat.reduceBEq, Nat.reduceBNe, reduceCtorEq, beq_self_eq_true, Int.toNat_natCast, List.length_map, List.length_nil, Int.reduceToNat, Int.reduceAdd, Int.reduceSub, Int.reduceMul, Int.reduceLT, Int.reduceLE, Int.reduceEq, Int.reduceBEq, Int.reduceNeg, decide_true, decide_false, Nat.le_max_left, Nat.le_max_right, ne_eq, not_true_eq_false, not_false_eq_true, Int.natCast_zero, gt_iff_lt, ge_iff_le, Int.reduceGT, Int.reduceGE, Bool.false_and, Bool.and_false, Bool.true_and, Bool.and_true, ir28_l0, e2, e3, e4, e5, h2, h4, h15, d1, w1, hr0, hb, c1, c2, ht]
      refine .next (by omega) ⟨zs ++ [(k : Int).tmod r], i, .ms 49 (ver + 1 + 1) 0 (zs.length + 1) (zs.length + 1), ⟨?_, ?_, ?_, ?_, ?_, ?_, hi0⟩, SlB.mk ?_ ?_ ?_, by omega, ?_, by simp [len], by omega, hm⟩ <;> simp -implicitDefEqProofs only [go_sem, ↓reduceIte, Nat.reduceEqDiff, Nat.reduceAdd, Nat.reduceSub, Nat.reduceMul, Nat.reduceLeDiff, Nat.reduceLT, Nat.reduceBEq, Nat.reduceBNe, reduceCtorEq, beq_self_eq_true, Int.toNat_natCast, List.length_map, List.length_nil, Int.reduceToNat, Int.reduceAdd, Int.reduceSub, Int.reduceMul, Int.reduceLT, Int.reduceLE, Int.reduceEq, Int.reduceBEq, Int.reduceNeg, decide_true, decide_false, Nat.le_max_left, Nat.le_max_right, ne_eq, not_true_eq_false, not_false_eq_true, Int.natCast_zero, gt_iff_lt, ge_iff_le, Int.reduceGT, Int.reduceGE, Bool.false_and, Bool.and_false, Bool.true_and, Bool.and_true, e2, e3, e4, e5, h2, h4, h15, w1, List.map_append, List.length_append]
  · have d1 : decide ((k : Int) < r) = false := by simpa using hlt
    cases v with
    | false =>
      simp -implicitDefEqProofs only [go_sem, ↓reduceIte, Nat.reduceEqDiff, Nat.reduceAdd, Nat.reduceSub, Nat.reduceMul, Nat.reduceLeDiff, Nat.reduceLT, Nat.reduceBEq, Nat.reduceBNe, reduceCtorEq, beq_self_eq_true, Int.toNat_natCast, List.length_map, List.length_nil, Int.reduceToNat, Int.reduceAdd, Int.reduceSub, Int.reduceMul, Int.reduceLT, Int.reduceLE, Int.reduceEq, Int.reduceBEq, Int.reduceNeg, decide_true, decide_false, Nat.le_max_left, Nat.le_max_right, ne_eq, not_true_eq_false, not_false_eq_true, Int.natCast_zero, gt_iff_lt, ge_iff_le, Int.reduceGT, Int.reduceGE, Bool.false_and, Bool.and_false, Bool.true_and, Bool.and_true, ir28_l0, e2, e3, e4, e5, h2, h4, h15, d1, w1, hr0, hF]
      refine .exit ⟨rfl, zs, i', zv, ⟨?_, ?_, ?_, ?_, ?_, ?_, by omega⟩, hz.keep ?_, by omega, by omega, by omega, rg⟩ <;> simp -implicitDefEqProofs only [go_sem, ↓reduceIte, Nat.reduceEqDiff, Nat.reduceAdd, Nat.reduceSub, Nat.reduceMul, Nat.reduceLeDiff, Nat.reduceLT, Nat.reduceBEq, Nat.reduceBNe, reduceCtorEq, beq_self_eq_true, Int.toNat_natCast, List.length_map, List.length_nil, Int.reduceToNat, Int.reduceAdd, Int.reduceSub, Int.reduceMul, Int.reduceLT, Int.reduceLE, Int.reduceEq, Int.reduceBEq, Int.reduceNeg, decide_true, decide_false, Nat.le_max_left, Nat.le_max_right, ne_eq, not_true_eq_false, not_false_eq_true, Int.natCast_zero, gt_iff_lt, ge_iff_le, Int.reduceGT, Int.reduceGE, Bool.false_and, Bool.and_false, Bool.true_and, Bool.and_true, e2, e3, e4, e5, h2, h4, h15, w1]
    | true =>
      by_cases hk6 : (k : Int) < 6
      · have d2 : decide ((k : Int) < 6) = true := by simpa using hk6
        rcases hz with ⟨hz, rfl⟩ | ⟨hz, ver, rfl, hb⟩
        · simp -implicitDefEqProofs only [go_sem, ↓reduceIte, Nat.reduceEqDiff, Nat.reduceAdd, Nat.reduceSub, Nat.reduceMul, Nat.reduceLeDiff, Nat.reduceLT, Nat.reduceBEq, Nat.reduceBNe, reduceCtorEq, beq_self_eq_true, Int.toNat_natCast, List.length_map, List.length_nil, Int.reduceToNat, Int.reduceAdd, Int.reduceSub, Int.reduceMul, Int.reduceLT, Int.reduceLE, Int.reduceEq, Int.reduceBEq, Int.reduceNeg, decide_true, decide_false, Nat.le_max_left, Nat.le_max_right, ne_eq, not_true_eq_false, not_false_eq_true, Int.natCast_zero, gt_iff_lt, ge_iff_le, Int.reduceGT, Int.reduceGE, Bool.false_and, Bool.and_false, Bool.true_and, Bool.and_true, ir28_l0, e2, e3, e4, e5, h2, h4, h15, d1, d2, w1, hr0, hF]
          refine .next (by omega) ⟨zs ++ [(k : Int).tmod r], i', .ms 49 ((hg H 49).ver + 1) 0 1 1, ⟨?_, ?_, ?_, ?_, ?_, ?_, by omega⟩, SlB.mk ?_ ?_ ?_, by omega, ?_, by simp [len], by omega, hm⟩ <;> simp -implicitDefEqProofs only [go_sem, ↓reduceIte, Nat.reduceEqDiff, Nat.reduceAdd, Nat.reduceSub, Nat.reduceMul, Nat.reduceLeDiff, Nat.reduceLT, Nat.reduceBEq, Nat.reduceBNe, reduceCtorEq, beq_self_eq_true, Int.toNat_natCast, List.length_map, List.length_nil, Int.reduceToNat, Int.reduceAdd, Int.reduceSub, Int.reduceMul, Int.reduceLT, Int.reduceLE, Int.reduceEq, Int.reduceBEq, Int.reduceNeg, decide_true, decide_false, Nat.le_max_left, Nat.le_max_right, ne_eq, not_true_eq_false, not_false_eq_true, Int.natCast_zero, gt_iff_lt, ge_iff_le, Int.reduceGT, Int.reduceGE, Bool.false_and, Bool.and_false, Bool.true_and, Bool.and_true, e2, e3, e4, e5, h2, h4, h15, w1, List.map_append, hz]
        · simp -implicitDefEqProofs only [go_sem, ↓reduceIte, Nat.reduceEqDiff, Nat.reduceAdd, Nat.reduceSub, Nat.reduceMul, Nat.reduceLeDiff, Nat.reduceLT, Nat.reduceBEq, Nat.reduceBNe, reduceCtorEq, beq_self_eq_true, Int.toNat_natCast, List.length_map, List.length_nil, Int.reduceToNat, Int.reduceAdd, Int.reduceSub, Int.reduceMul, Int.reduceLT, Int.reduceLE, Int.reduceEq, Int.reduceBEq, Int.reduceNeg, decide_true, decide_false, Nat.le_max_left, Nat.le_max_right, ne_eq, not_true_eq_false, not_false_eq_true, Int.natCast_zero, gt_iff_lt, ge_iff_le, Int.reduceGT, Int.reduceGE, Bool.false_and, Bool.and_false, Bool.true_and, Bool.and_true, ir28_l0, e2, e3, e4, e5, h2, h4, h15, d1, d2, w1, hr0, hb, c1, c2, ht, hF]
          refine .next (by omega) ⟨zs ++ [(k : Int).tmod r], i', .ms 49 (ver + 1 + 1) 0 (zs.length + 1) (zs.length + 1), ⟨?_, ?_, ?_, ?_, ?_, ?_, by omega⟩, SlB.mk ?_ ?_ ?_, by omega, ?_, by simp [len], by omega, hm⟩ <;> simp -implicitDefEqProofs only [go_sem, ↓reduceIte, Nat.reduceEqDiff, Nat.reduceAdd, Nat.reduceSub, Nat.reduceMul, Nat.reduceLeDiff, Nat.reduceLT, Nat.reduceBEq, Nat.reduceBNe, reduceCtorEq, beq_self_eq_true, Int.toNat_natCast, List.length_map, List.length_nil, Int.reduceToNat, Int.reduceAdd, Int.reduceSub, Int.reduceMul, Int.reduceLT, Int.reduceLE, Int.reduceEq, Int.reduceBEq, Int.reduceNeg, decide_true, decide_false, Nat.le_max_left, Nat.le_max_right, ne_eq, not_true_eq_false, not_false_eq_true, Int.natCast_zero, gt_iff_lt, ge_iff_le, Int.reduceGT, Int.reduceGE, Bool.false_and, Bool.and_false, Bool.true_and, Bool.and_true, e2, e3, e4, e5, h2, h4, h15, w1, List.map_append, List.length_append]
      · have d2 : decide ((k : Int) < 6) = false := by simpa using hk6
        simp -implicitDefEqProofs only [go_sem, ↓reduceIte, Nat.reduceEqDiff, Nat.reduceAdd, Nat.reduceSub, Nat.reduceMul, Nat.reduceLeDiff, Nat.reduceLT, Nat.reduceBEq, Nat.reduceBNe, reduceCtorEq, beq_self_eq_true, Int.toNat_natCast, List.length_map, List.length_nil, Int.reduceToNat, Int.reduceAdd, Int.reduceSub, Int.reduceMul, Int.reduceLT, Int.reduceLE, Int.reduceEq, Int.reduceBEq, Int.reduceNeg, decide_true, decide_false, Nat.le_max_left, Nat.le_max_right, ne_eq, not_true_eq_false, not_false_eq_true, Int.natCast_zero, gt_iff_lt, ge_iff_le, Int.reduceGT, Int.reduceGE, Bool.false_and, Bool.and_false, Bool.true_and, Bool.and_true, ir28_l0, e2, e3, e4, e5, h2, h4, h15, d1, d2, w1, hr0, hF]
        refine .exit ⟨rfl, zs, i', zv, ⟨?_, ?_, ?_, ?_, ?_, ?_, by omega⟩, hz.keep ?_, by omega, by omega, by omega, rg⟩ <;> simp -implicitDefEqProofs only [go_sem, ↓reduceIte, Nat.reduceEqDiff, Nat.reduceAdd, Nat.reduceSub, Nat.reduceMul, Nat.reduceLeDiff, Nat.reduceLT, Nat.reduceBEq, Nat.reduceBNe, reduceCtorEq, beq_self_eq_true, Int.toNat_natCast, List.length_map, List.length_nil, Int.reduceToNat, Int.reduceAdd, Int.reduceSub, Int.reduceMul, Int.reduceLT, Int.reduceLE, Int.reduceEq, Int.reduceBEq, Int.reduceNeg, decide_true, decide_false, Nat.le_max_left, Nat.le_max_right, ne_eq, not_true_eq_false, not_false_eq_true, Int.natCast_zero, gt_iff_lt, ge_iff_le, Int.reduceGT, Int.reduceGE, Bool.false_and, Bool.and_false, Bool.true_and, Bool.and_true, e2, e3, e4, e5, h2, h4, h15, w1]
abbrev nilV : DV := .lit (.slice none 0 0)
def L1 (L : List Int) (r bl le ba : Int) (zs : List Int) (k : Nat) (s : VSt) : Prop := ∃ (cs : List Cell) (i : Nat) (zv cv : DV), CS L s i r bl le ba zv cv nilV nilV nilV nilV ∧
  SlB s.H 49 1 (zs.map eI) zv ∧ SlB s.H 78 2 (cs.map eC) cv ∧ i ≤ 30 + 2 * k ∧ gt .bad s.E 6 = dI (k : Nat) ∧ cs.length = k ∧ k ≤ 7 ∧ ∀ c, c ∈ cs → 0 ≤ c.zone ∧ c.zone < zs.length ∧ 10 ≤ c.cap ∧ c.cap ≤ 40
def Q1 (L : List Int) (r bl le ba : Int) (zs : List Int) (e : Ex) (s : VSt) : Prop := e = .exit 2 ∧ ∃ (cs : List Cell) (i : Nat) (zv cv : DV), CS L s i r bl le ba zv cv nilV nilV nilV nilV ∧
  SlB s.H 49 1 (zs.map eI) zv ∧ SlB s.H 78 2 (cs.map eC) cv ∧ i ≤ 60 ∧ zs.length ≤ cs.length ∧ cs.length ≤ 7 ∧ ∀ c, c ∈ cs → 0 ≤ c.zone ∧ c.zone < zs.length ∧ 10 ≤ c.cap ∧ c.cap ≤ 40
theorem config_l1 (L : List Int) (hL : I64s L) (r bl le ba : Int) (zs : List Int) (hz0 : 1 ≤ zs.length) (hz6 : zs.length ≤ 6) : ∀ (k : Nat) s, L1 L r bl le ba zs k s → Ok (R PP shF 0 182 (.loop ir28_l1) s) (Q1 L r bl le ba zs) := by
  refine Ok_up 7 (L1 L r bl le ba zs) fun k s hI => ?_
  obtain ⟨cs, i, zv, cv, C, hz, hc, hi, e6, len, hk, rg⟩ := hI
  obtain ⟨v, i', hv1, hv2, hF⟩ := Yes_ex L i 2 hL (by have := C.hi; omega) (by omega) (by omega)
  obtain ⟨E, H⟩ := s
  obtain ⟨e2, e3, e4, h2, h4, h15, hi0⟩ := C
  simp only at e2 e3 e4 h2 h4 h15 e6 hz hc
  have w1 : IntKind.wrap .i64 ((k : Int) + 1) = ((k + 1 : Nat) : Int) := by rw [w64 (by omega) (by omega)]; rfl
  have hr0 : ¬ (zs.length : Int) = 0 := by omega
  have c1 : ¬ cs.length + 1 ≤ cs.length := by omega
  have c2 : (cs.length + 1) * 16 ≤ 140737488355328 ∧ cs.length ≤ 9223372036854775806 := by omega
  have ht : List.take cs.length (cs.map eC) = cs.map eC := List.take_of_length_le (by simp)
  rcases hz with ⟨hz, rfl⟩ | ⟨hz, verz, rfl, hbz⟩
  · exfalso
    have : zs = [] := by simpa using hz
    subst this; simp at hz0
  have hz : SlB H 49 1 (zs.map eI) (.ms 49 verz 0 (zs.map eI).length (zs.map eI).length) := .inr ⟨hz, verz, rfl, hbz⟩
  have hm : ∀ c : Int, 1 ≤ c → c ≤ 4 → ∀ x : Cell, x ∈ cs ++ [⟨(k : Int).tmod zs.length, c * 10⟩] → 0 ≤ x.zone ∧ x.zone < zs.length ∧ 10 ≤ x.cap ∧ x.cap ≤ 40 := by
    intro c hc1 hc2 x hx
    rcases List.mem_append.1 hx with hx | hx
    · exact rg x hx
    · simp at hx; subst hx
      have q1 : 0 ≤ (k : Int).tmod zs.length := Int.tmod_nonneg _ (by omega)
      have q2 : (k : Int).tmod zs.length < zs.length := Int.tmod_lt_of_pos _ (by omega)
      exact ⟨q1, q2, by simp only; omega, by simp only; omega⟩
  by_cases hlt : (k : Int) < zs.length
  · have d1 : decide ((k : Int) < zs.length) = true := by simpa using hlt
    obtain ⟨c, j, hc1, hc2, hj1, hj2, hG⟩ := Range_ex L i 1 4 hL (by omega) (by omega) (by omega) (by omega)
    have w2 : IntKind.wrap .i64 (c * 10) = c * 10 := w64 (by omega) (by omega)
    rcases hc with ⟨hc, rfl⟩ | ⟨hc, ver, rfl, hb⟩
    · simp -implicitDefEqProofs only [go_sem, ↓reduceIte, Nat.reduceEqDiff, Nat.reduceAdd, Nat.reduceSub, Nat.reduceMul, Nat.reduceLeDiff, Nat.reduceLT, Nat.reduceBEq, Nat.reduceBNe, reduceCtorEq, beq_self_eq_true, Int.toNat_natCast, List.length_map, List.length_nil, Int.reduceToNat, Int.reduceAdd, Int.reduceSub, Int.reduceMul, Int.reduceLT, Int.reduceLE, Int.reduceEq, Int.reduceBEq, Int.reduceNeg, decide_true, decide_false, Nat.le_max_left, Nat.le_max_right, ne_eq, not_true_eq_false, not_false_eq_true, Int.natCast_zero, gt_iff_lt, ge_iff_le, Int.reduceGT, Int.reduceGE, Bool.false_and, Bool.and_false, Bool.true_and, Bool.and_true, ir28_l1, e2, e3, e4, e6, h2, h4, h15, hbz, d1, w1, w2, hr0, hG]
      refine .next (by omega) ⟨cs ++ [⟨(k : Int).tmod zs.length, c * 10⟩], j, _, .ms 78 ((hg H 78).ver + 1) 0 1 1, ⟨?_, ?_, ?_, ?_, ?_, ?_, by omega⟩, hz.keep ?_, SlB.mk ?_ ?_ ?_, by omega, ?_, by simp [len], by omega, hm c hc1 hc2⟩ <;> simp -implicitDefEqProofs only [go_sem, ↓reduceIte, Nat.reduceEqDiff, Nat.reduceAdd, Nat.reduceSub, Nat.reduceMul, Nat.reduceLeDiff, Nat.reduceLT, Nat.reduceBEq, Nat.reduceBNe, reduceCtorEq, beq_self_eq_true, Int.toNat_natCast, List.length_map, List.length_nil, Int.reduceToNat, Int.reduceAdd, Int.reduceSub, Int.reduceMul, Int.reduceLT, Int.reduceLE, Int.reduceEq, Int.reduceBEq, Int.reduceNeg, decide_true, decide_false, Nat.le_max_left, Nat.le_max_right, ne_eq, not_true_eq_false, not_false_eq_true, Int.natCast_zero, gt_iff_lt, ge_iff_le, Int.reduceGT, Int.reduceGE, Bool.false_and, Bool.and_false, Bool.true_and, Bool.and_true, e2, e3, e4, e6, h2, h4, h15, w1, List.map_append, hc]
    · simp -implicitDefEqProofs only [go_sem, ↓reduceIte, Nat.reduceEqDiff, Nat.reduceAdd, Nat.reduceSub, Nat.reduceMul, Nat.reduceLeDiff, Nat.reduceLT, Nat.reduceBEq, Nat.reduceBNe, reduceCtorEq, beq_self_eq_true, Int.toNat_natCast, List.length_map, List.length_nil, Int.reduceToNat, Int.reduceAdd, Int.reduceSub, Int.reduceMul, Int.reduceLT, Int.reduceLE, Int.reduceEq, Int.reduceBEq, Int.reduceNeg, decide_true, decide_false, Nat.le_max_left, Nat.le_max_right, ne_eq, not_true_eq_false, not_false_eq_true, Int.natCast_zero, gt_iff_lt, ge_iff_le, Int.reduceGT, Int.reduceGE, Bool.false_and, Bool.and_false, Bool.true_and, Bool.and_true, ir28_l1, e2, e3, e4, e6, h2, h4, h15, hbz, d1, w1, w2, hr0, hG, hb, c1, c2, ht]
      refine .next (by omega) ⟨cs ++ [⟨(k : Int).tmod zs.length, c * 10⟩], j, _, .ms 78 (ver + 1 + 1) 0 (cs.length + 1) (cs.length + 1), ⟨?_, ?_, ?_, ?_, ?_, ?_, by omega⟩, hz.keep ?_, SlB.mk ?_ ?_ ?_, by omega, ?_, by simp [len], by omega, hm c hc1 hc2⟩ <;> simp -implicitDefEqProofs only [go_sem, ↓reduceIte, Nat.reduceEqDiff, Nat.reduceAdd, Nat.reduceSub, Nat.reduceMul, Nat.reduceLeDiff, Nat.reduceLT, Nat.reduceBEq, Nat.reduceBNe, reduceCtorEq, beq_self_eq_true, Int.toNat_natCast, List.length_map, List.length_nil, Int.reduceToNat, Int.reduceAdd, Int.reduceSub, Int.reduceMul, Int.reduceLT, Int.reduceLE, Int.reduceEq, Int.reduceBEq, Int.reduceNeg, decide_true, decide_false, Nat.le_max_left, Nat.le_max_right, ne_eq, not_true_eq_false, not_false_eq_true, Int.natCast_zero, gt_iff_lt, ge_iff_le, Int.reduceGT, Int.reduceGE, Bool.false_and, Bool.and_false, Bool.true_and, Bool.and_true, e2, e3, e4, e6, h2, h4, h15, w1, List.map_append, List.length_append]
  · have d1 : decide ((k : Int) < zs.length) = false := by simpa using hlt
    cases v with
    | false =>
      simp -implicitDefEqProofs only [go_sem, ↓reduceIte, Nat.reduceEqDiff, Nat.reduceAdd, Nat.reduceSub, Nat.reduceMul, Nat.reduceLeDiff, Nat.reduceLT, Nat.reduceBEq, Nat.reduceBNe, reduceCtorEq, beq_self_eq_true, Int.toNat_natCast, List.length_map, List.length_nil, Int.reduceToNat, Int.reduceAdd, Int.reduceSub, Int.reduceMul, Int.reduceLT, Int.reduceLE, Int.reduceEq, Int.reduceBEq, Int.reduceNeg, decide_true, decide_false, Nat.le_max_left, Nat.le_max_right, ne_eq, not_true_eq_false, not_false_eq_true, Int.natCast_zero, gt_iff_lt, ge_iff_le, Int.reduceGT, Int.reduceGE, Bool.false_and, Bool.and_false, Bool.true_and, Bool.and_true, ir28_l1, e2, e3, e4, e6, h2, h4, h15, hbz, d1, w1, hr0, hF]
      refine .exit ⟨rfl, cs, i', _, cv, ⟨?_, ?_, ?_, ?_, ?_, ?_, by omega⟩, hz.keep ?_, hc.keep ?_, by omega, by omega, by omega, rg⟩ <;> simp -implicitDefEqProofs only [go_sem, ↓reduceIte, Nat.reduceEqDiff, Nat.reduceAdd, Nat.reduceSub, Nat.reduceMul, Nat.reduceLeDiff, Nat.reduceLT, Nat.reduceBEq, Nat.reduceBNe, reduceCtorEq, beq_self_eq_true, Int.toNat_natCast, List.length_map, List.length_nil, Int.reduceToNat, Int.reduceAdd, Int.reduceSub, Int.reduceMul, Int.reduceLT, Int.reduceLE, Int.reduceEq, Int.reduceBEq, Int.reduceNeg, decide_true, decide_false, Nat.le_max_left, Nat.le_max_right, ne_eq, not_true_eq_false, not_false_eq_true, Int.natCast_zero, gt_iff_lt, ge_iff_le, Int.reduceGT, Int.reduceGE, Bool.false_and, Bool.and_false, Bool.true_and, Bool.and_true, e2, e3, e4, e6, h2, h4, h15, w1]
    | true =>
      by_cases hk6 : (k : Int) < 7
      · have d2 : decide ((k : Int) < 7) = true := by simpa using hk6
        obtain ⟨c, j, hc1, hc2, hj1, hj2, hG⟩ := Range_ex L i' 1 4 hL (by omega) (by omega) (by omega) (by omega)
        have w2 : IntKind.wrap .i64 (c * 10) = c * 10 := w64 (by omega) (by omega)
        rcases hc with ⟨hc, rfl⟩ | ⟨hc, ver, rfl, hb⟩
        · simp -implicitDefEqProofs only [go_sem, ↓reduceIte, Nat.reduceEqDiff, Nat.reduceAdd, Nat.reduceSub, Nat.reduceMul, Nat.reduceLeDiff, Nat.reduceLT, Nat.reduceBEq, Nat.reduceBNe, reduceCtorEq, beq_self_eq_true, Int.toNat_natCast, List.length_map, List.length_nil, Int.reduceToNat, Int.reduceAdd, Int.reduceSub, Int.reduceMul, Int.reduceLT, Int.reduceLE, Int.reduceEq, Int.reduceBEq, Int.reduceNeg, decide_true, decide_false, Nat.le_max_left, Nat.le_max_right, ne_eq, not_true_eq_false, not_false_eq_true, Int.natCast_zero, gt_iff_lt, ge_iff_le, Int.reduceGT, Int.reduceGE, Bool.false_and, Bool.and_false, Bool.true_and, Bool.and_true, ir28_l1, e2, e3, e4, e6, h2, h4, h15, hbz, d1, d2, w1, w2, hr0, hF, hG]
          refine .next (by omega) ⟨cs ++ [⟨(k : Int).tmod zs.length, c * 10⟩], j, _, .ms 78 ((hg H 78).ver + 1) 0 1 1, ⟨?_, ?_, ?_, ?_, ?_, ?_, by omega⟩, hz.keep ?_, SlB.mk ?_ ?_ ?_, by omega, ?_, by simp [len], by omega, hm c hc1 hc2⟩ <;> simp -implicitDefEqProofs only [go_sem, ↓reduceIte, Nat.reduceEqDiff, Nat.reduceAdd, Nat.reduceSub, Nat.reduceMul, Nat.reduceLeDiff, Nat.reduceLT, Nat.reduceBEq, Nat.reduceBNe, reduceCtorEq, beq_self_eq_true, Int.toNat_natCast, List.length_map, List.length_nil, Int.reduceToNat, Int.reduceAdd, Int.reduceSub, Int.reduceMul, Int.reduceLT, Int.reduceLE, Int.reduceEq, Int.reduceBEq, Int.reduceNeg, decide_true, decide_false, Nat.le_max_left, Nat.le_max_right, ne_eq, not_true_eq_false, not_false_eq_true, Int.natCast_zero, gt_iff_lt, ge_iff_le, Int.reduceGT, Int.reduceGE, Bool.false_and, Bool.and_false, Bool.true_and, Bool.and_true, e2, e3, e4, e6, h2, h4, h15, w1, List.map_append, hc]
        · simp -implicitDefEqProofs only [go_sem, ↓reduceIte, Nat.reduceEqDiff, Nat.reduceAdd, Nat.reduceSub, Nat.reduceMul, Nat.reduceLeDiff, Nat.reduceLT, Nat.reduceBEq, Nat.reduceBNe, reduceCtorEq, beq_self_eq_true, Int.toNat_natCast, List.length_map, List.length_nil, Int.reduceToNat, Int.reduceAdd, Int.reduceSub, Int.reduceMul, Int.reduceLT, Int.reduceLE, Int.reduceEq, Int.reduceBEq, Int.reduceNeg, decide_true, decide_false, Nat.le_max_left, Nat.le_max_right, ne_eq, not_true_eq_false, not_false_eq_true, Int.natCast_zero, gt_iff_lt, ge_iff_le, Int.reduceGT, Int.reduceGE, Bool.false_and, Bool.and_false, Bool.true_and, Bool.and_true, ir28_l1, e2, e3, e4, e6, h2, h4, h15, hbz, d1, d2, w1, w2, hr0, hF, hG, hb, c1, c2, ht]
          refine .next (by omega) ⟨cs ++ [⟨(k : Int).tmod zs.length, c * 10⟩], j, _, .ms 78 (ver + 1 + 1) 0 (cs.length + 1) (cs.length + 1), ⟨?_, ?_, ?_, ?_, ?_, ?_, by omega⟩, hz.keep ?_, SlB.mk ?_ ?_ ?_, by omega, ?_, by simp [len], by omega, hm c hc1 hc2⟩ <;> simp -implicitDefEqProofs only [go_sem, ↓reduceIte, Nat.reduceEqDiff, Nat.reduceAdd, Nat.reduceSub, Nat.reduceMul, Nat.reduceLeDiff, Nat.reduceLT, Nat.reduceBEq, Nat.reduceBNe, reduceCtorEq, beq_self_eq_true, Int.toNat_natCast, List.length_map, List.length_nil, Int.reduceToNat, Int.reduceAdd, Int.reduceSub, Int.reduceMul, Int.reduceLT, Int.reduceLE, Int.reduceEq, Int.reduceBEq, Int.reduceNeg, decide_true, decide_false, Nat.le_max_left, Nat.le_max_right, ne_eq, not_true_eq_false, not_false_eq_true, Int.natCast_zero, gt_iff_lt, ge_iff_le, Int.reduceGT, Int.reduceGE, Bool.false_and, Bool.and_false, Bool.true_and, Bool.and_true, e2, e3, e4, e6, h2, h4, h15, w1, List.map_append, List.length_append]
      · have d2 : decide ((k : Int) < 7) = false := by simpa using hk6
        simp -implicitDefEqProofs only [go_sem, ↓reduceIte, Nat.reduceEqDiff, Nat.reduceAdd, Nat.reduceSub, Nat.reduceMul, Nat.reduceLeDiff, Nat.reduceLT, Nat.reduceBEq, Nat.reduceBNe, reduceCtorEq, beq_self_eq_true, Int.toNat_natCast, List.length_map, List.length_nil, Int.reduceToNat, Int.reduceAdd, Int.reduceSub, Int.reduceMul, Int.reduceLT, Int.reduceLE, Int.reduceEq, Int.reduceBEq, Int.reduceNeg, decide_true, decide_false, Nat.le_max_left, Nat.le_max_right, ne_eq, not_true_eq_false, not_false_eq_true, Int.natCast_zero, gt_iff_lt, ge_iff_le, Int.reduceGT, Int.reduceGE, Bool.false_and, Bool.and_false, Bool.true_and, Bool.and_true, ir28_l1, e2, e3, e4, e6, h2, h4, h15, hbz, d1, d2, w1, hr0, hF]
        refine .exit ⟨rfl, cs, i', _, cv, ⟨?_, ?_, ?_, ?_, ?_, ?_, by omega⟩, hz.keep ?_, hc.keep ?_, by omega, by omega, by omega, rg⟩ <;> simp -implicitDefEqProofs only [go_sem, ↓reduceIte, Nat.reduceEqDiff, Nat.reduceAdd, Nat.reduceSub, Nat.reduceMul, Nat.reduceLeDiff, Nat.reduceLT, Nat.reduceBEq, Nat.reduceBNe, reduceCtorEq, beq_self_eq_true, Int.toNat_natCast, List.length_map, List.length_nil, Int.reduceToNat, Int.reduceAdd, Int.reduceSub, Int.reduceMul, Int.reduceLT, Int.reduceLE, Int.reduceEq, Int.reduceBEq, Int.reduceNeg, decide_true, decide_false, Nat.le_max_left, Nat.le_max_right, ne_eq, not_true_eq_false, not_false_eq_true, Int.natCast_zero, gt_iff_lt, ge_iff_le, Int.reduceGT, Int.reduceGE, Bool.false_and, Bool.and_false, Bool.true_and, Bool.and_true, e2, e3, e4, e6, h2, h4, h15, w1]
/-- All regions, as a set. -/
def allR (r : Int) : Int := 2 ^ r.toNat - 1
structure TenOk (r : Int) (t : Ten) : Prop where
  l0 : 1 ≤ t.load
  l1 : t.load ≤ 12
  s0 : 0 ≤ t.shadow
  s1 : t.shadow ≤ t.load
  p0 : 0 ≤ t.prio
  p1 : t.prio ≤ 3
  g0 : -1 ≤ t.lag
  g1 : t.lag ≤ 3
  a0 : 1 ≤ t.allowed
  a1 : t.allowed ≤ allR r
  u0 : 0 ≤ t.group
  u1 : t.group ≤ 2
/-- Zones and cells are there. -/
structure ZC (r : Int) (zs : List Int) (cs : List Cell) (H : VHeap) (zv cv : DV) : Prop where
  z : SlB H 49 1 (zs.map eI) zv
  c : SlB H 78 2 (cs.map eC) cv
theorem ZC.keep {r : Int} {zs : List Int} {cs : List Cell} {H H' : VHeap} {zv cv : DV} (h : ZC r zs cs H zv cv) (h1 : hg H' 49 = hg H 49) (h2 : hg H' 78 = hg H 78) : ZC r zs cs H' zv cv := ⟨h.z.keep h1, h.c.keep h2⟩
def L2 (L : List Int) (r bl le ba : Int) (zs : List Int) (cs : List Cell) (k : Nat) (s : VSt) : Prop := ∃ (ts : List Ten) (i : Nat) (zv cv tv : DV), CS L s i r bl le ba zv cv tv nilV nilV nilV ∧ ZC r zs cs s.H zv cv ∧
  SlB s.H 121 7 (ts.map eT) tv ∧ i + 10 * k ≤ 120 ∧ gt .bad s.E 7 = dI (k : Nat) ∧ ts.length + k ≤ 5 ∧ ∀ t, t ∈ ts → TenOk r t
def Q2 (L : List Int) (r bl le ba : Int) (zs : List Int) (cs : List Cell) (e : Ex) (s : VSt) : Prop := e = .exit 4 ∧ ∃ (ts : List Ten) (i : Nat) (zv cv tv : DV), CS L s i r bl le ba zv cv tv nilV nilV nilV ∧ ZC r zs cs s.H zv cv ∧
  SlB s.H 121 7 (ts.map eT) tv ∧ i ≤ 120 ∧ ts.length ≤ 5 ∧ ∀ t, t ∈ ts → TenOk r t
theorem config_l2 (L : List Int) (hL : I64s L) (r bl le ba : Int) (hr : 1 ≤ r ∧ r ≤ 3) (zs : List Int) (cs : List Cell) : ∀ (k : Nat) s, L2 L r bl le ba zs cs k s → Ok (R PP shF 0 182 (.loop ir28_l2) s) (Q2 L r bl le ba zs cs) := by
  refine Ok_dn (L2 L r bl le ba zs cs) fun k s hI => ?_
  obtain ⟨ts, i, zv, cv, tv, C, hzc, ht, hi, e7, len, rg⟩ := hI
  obtain ⟨E, H⟩ := s
  obtain ⟨e2, e3, e4, h2, h4, h15, hi0⟩ := C
  simp only at e2 e3 e4 h2 h4 h15 e7 hzc ht
  by_cases hk : k = 0
  · subst hk
    have d1 : decide (((0 : Nat) : Int) > 0) = false := by simp
    simp -implicitDefEqProofs only [go_sem, ↓reduceIte, Nat.reduceEqDiff, Nat.reduceAdd, Nat.reduceSub, Nat.reduceMul, Nat.reduceLeDiff, Nat.reduceLT, Nat.reduceBEq, Nat.reduceBNe, reduceCtorEq, beq_self_eq_true, Int.toNat_natCast, List.length_map, List.length_nil, Int.reduceToNat, Int.reduceAdd, Int.reduceSub, Int.reduceMul, Int.reduceLT, Int.reduceLE, Int.reduceEq, Int.reduceBEq, Int.reduceNeg, decide_true, decide_false, Nat.le_max_left, Nat.le_max_right, ne_eq, not_true_eq_false, not_false_eq_true, Int.natCast_zero, gt_iff_lt, ge_iff_le, Int.reduceGT, Int.reduceGE, Bool.false_and, Bool.and_false, Bool.true_and, Bool.and_true, ir28_l2, e7]
    refine .exit ⟨rfl, ts, i, zv, cv, tv, ⟨?_, ?_, ?_, ?_, ?_, ?_, by omega⟩, hzc.keep ?_ ?_, ht.keep ?_, by omega, by omega, rg⟩ <;> simp -implicitDefEqProofs only [go_sem, ↓reduceIte, Nat.reduceEqDiff, Nat.reduceAdd, Nat.reduceSub, Nat.reduceMul, Nat.reduceLeDiff, Nat.reduceLT, Nat.reduceBEq, Nat.reduceBNe, reduceCtorEq, beq_self_eq_true, Int.toNat_natCast, List.length_map, List.length_nil, Int.reduceToNat, Int.reduceAdd, Int.reduceSub, Int.reduceMul, Int.reduceLT, Int.reduceLE, Int.reduceEq, Int.reduceBEq, Int.reduceNeg, decide_true, decide_false, Nat.le_max_left, Nat.le_max_right, ne_eq, not_true_eq_false, not_false_eq_true, Int.natCast_zero, gt_iff_lt, ge_iff_le, Int.reduceGT, Int.reduceGE, Bool.false_and, Bool.and_false, Bool.true_and, Bool.and_true, e2, e3, e4, h2, h4, h15]
  · have d1 : decide (0 < (k : Int)) = true := by simp; omega
    have w1 : IntKind.wrap .i64 ((k : Int) - 1) = ((k - 1 : Nat) : Int) := by rw [w64 (by omega) (by omega)]; omega
    have hA : allR r = 1 ∨ allR r = 3 ∨ allR r = 7 := by
      obtain rfl | rfl | rfl : r = 1 ∨ r = 2 ∨ r = 3 := by omega
      · left; rfl
      · right; left; rfl
      · right; right; rfl
    obtain ⟨v1, i1, a1, b1, c1, d1', F1⟩ := Range_ex L i 1 12 hL (by omega) (by omega) (by omega) (by omega)
    obtain ⟨v2, i2, a2, b2, c2, d2', F2⟩ := Next_ex L i1 (v1 + 1) hL (by omega) (by omega) (by omega)
    obtain ⟨v3, i3, a3, b3, c3, d3', F3⟩ := Next_ex L i2 4 hL (by omega) (by omega) (by omega)
    obtain ⟨v4, i4, a4, b4, c4, d4', F4⟩ := Range_ex L i3 (-1) 3 hL (by omega) (by omega) (by omega) (by omega)
    obtain ⟨v5, i5, a5, b5, c5, d5', F5⟩ := Next_ex L i4 3 hL (by omega) (by omega) (by omega)
    obtain ⟨v6, i6, c6, d6', F6⟩ := Yes_ex L i5 4 hL (by omega) (by omega) (by omega)
    obtain ⟨v7, i7, c7, d7', F7⟩ := Yes_ex L i6 4 hL (by omega) (by omega) (by omega)
    obtain ⟨v8, i8, a8, b8, c8, d8', F8⟩ := Range_ex L i7 1 (allR r) hL (by omega) (by omega) (by omega) (by omega)
    have w2 : IntKind.wrap .i64 (v1 + 1) = v1 + 1 := w64 (by omega) (by omega)
    have cu : IntKind.wrap .u64 r = r := by simp [IntKind.wrap, IntKind.min, IntKind.max, IntKind.signed, IntKind.bits]; omega
    have nr : ¬ r < 0 := by omega
    have wA : IntKind.wrap .i64 (IntKind.wrap .i64 (1 * 2 ^ min r.toNat 64) - 1) = allR r := by
      obtain rfl | rfl | rfl : r = 1 ∨ r = 2 ∨ r = 3 := by omega
      · rfl
      · rfl
      · rfl
    have c1' : ¬ ts.length + 1 ≤ ts.length := by omega
    have c2' : (ts.length + 1) * 56 ≤ 140737488355328 ∧ ts.length ≤ 9223372036854775806 := by omega
    have ht' : List.take ts.length (ts.map eT) = ts.map eT := List.take_of_length_le (by simp)
    have hm : ∀ A : Int, 1 ≤ A → A ≤ allR r → ∀ t, t ∈ ts ++ [⟨v1, v2, v3, v4, A, v5, v6⟩] → TenOk r t := by
      intro A hA1 hA2 t hx
      rcases List.mem_append.1 hx with hx | hx
      · exact rg t hx
      · simp at hx; subst hx
        constructor <;> simp only <;> omega
    cases v7 with
    | false =>
      rcases ht with ⟨ht, rfl⟩ | ⟨ht, ver, rfl, hb⟩
      · simp -implicitDefEqProofs only [go_sem, ↓reduceIte, Nat.reduceEqDiff, Nat.reduceAdd, Nat.reduceSub, Nat.reduceMul, Nat.reduceLeDiff, Nat.reduceLT, Nat.reduceBEq, Nat.reduceBNe, reduceCtorEq, beq_self_eq_true, Int.toNat_natCast, List.length_map, List.length_nil, Int.reduceToNat, Int.reduceAdd, Int.reduceSub, Int.reduceMul, Int.reduceLT, Int.reduceLE, Int.reduceEq, Int.reduceBEq, Int.reduceNeg, decide_true, decide_false, Nat.le_max_left, Nat.le_max_right, ne_eq, not_true_eq_false, not_false_eq_true, Int.natCast_zero, gt_iff_lt, ge_iff_le, Int.reduceGT, Int.reduceGE, Bool.false_and, Bool.and_false, Bool.true_and, Bool.and_true, ir28_l2, e2, e3, e4, e7, h2, h4, h15, d1, w1, F1, F2, F3, F4, F5, F6, F7, w2, cu, nr, wA]
        refine .next (m := k - 1) (by omega) ⟨ts ++ [⟨v1, v2, v3, v4, allR r, v5, v6⟩], i7, _, _, .ms 121 ((hg H 121).ver + 1) 0 1 1, ⟨?_, ?_, ?_, ?_, ?_, ?_, by omega⟩, hzc.keep ?_ ?_, SlB.mk ?_ ?_ ?_, by omega, ?_, by simp; omega, hm _ (by omega) (by omega)⟩ <;> simp -implicitDefEqProofs only [go_sem, ↓reduceIte, Nat.reduceEqDiff, Nat.reduceAdd, Nat.reduceSub, Nat.reduceMul, Nat.reduceLeDiff, Nat.reduceLT, Nat.reduceBEq, Nat.reduceBNe, reduceCtorEq, beq_self_eq_true, Int.toNat_natCast, List.length_map, List.length_nil, Int.reduceToNat, Int.reduceAdd, Int.reduceSub, Int.reduceMul, Int.reduceLT, Int.reduceLE, Int.reduceEq, Int.reduceBEq, Int.reduceNeg, decide_true, decide_false, Nat.le_max_left, Nat.le_max_right, ne_eq, not_true_eq_false, not_false_eq_true, Int.natCast_zero, gt_iff_lt, ge_iff_le, Int.reduceGT, Int.reduceGE, Bool.false_and, Bool.and_false, Bool.true_and, Bool.and_true, e2, e3, e4, e7, h2, h4, h15, w1, List.map_append, ht]
      · simp -implicitDefEqProofs only [go_sem, ↓reduceIte, Nat.reduceEqDiff, Nat.reduceAdd, Nat.reduceSub, Nat.reduceMul, Nat.reduceLeDiff, Nat.reduceLT, Nat.reduceBEq, Nat.reduceBNe, reduceCtorEq, beq_self_eq_true, Int.toNat_natCast, List.length_map, List.length_nil, Int.reduceToNat, Int.reduceAdd, Int.reduceSub, Int.reduceMul, Int.reduceLT, Int.reduceLE, Int.reduceEq, Int.reduceBEq, Int.reduceNeg, decide_true, decide_false, Nat.le_max_left, Nat.le_max_right, ne_eq, not_true_eq_false, not_false_eq_true, Int.natCast_zero, gt_iff_lt, ge_iff_le, Int.reduceGT, Int.reduceGE, Bool.false_and, Bool.and_false, Bool.true_and, Bool.and_true, ir28_l2, e2, e3, e4, e7, h2, h4, h15, d1, w1, F1, F2, F3, F4, F5, F6, F7, w2, cu, nr, wA, hb, c1', c2', ht']
        refine .next (m := k - 1) (by omega) ⟨ts ++ [⟨v1, v2, v3, v4, allR r, v5, v6⟩], i7, _, _, .ms 121 (ver + 1 + 1) 0 (ts.length + 1) (ts.length + 1), ⟨?_, ?_, ?_, ?_, ?_, ?_, by omega⟩, hzc.keep ?_ ?_, SlB.mk ?_ ?_ ?_, by omega, ?_, by simp; omega, hm _ (by omega) (by omega)⟩ <;> simp -implicitDefEqProofs only [go_sem, ↓reduceIte, Nat.reduceEqDiff, Nat.reduceAdd, Nat.reduceSub, Nat.reduceMul, Nat.reduceLeDiff, Nat.reduceLT, Nat.reduceBEq, Nat.reduceBNe, reduceCtorEq, beq_self_eq_true, Int.toNat_natCast, List.length_map, List.length_nil, Int.reduceToNat, Int.reduceAdd, Int.reduceSub, Int.reduceMul, Int.reduceLT, Int.reduceLE, Int.reduceEq, Int.reduceBEq, Int.reduceNeg, decide_true, decide_false, Nat.le_max_left, Nat.le_max_right, ne_eq, not_true_eq_false, not_false_eq_true, Int.natCast_zero, gt_iff_lt, ge_iff_le, Int.reduceGT, Int.reduceGE, Bool.false_and, Bool.and_false, Bool.true_and, Bool.and_true, e2, e3, e4, e7, h2, h4, h15, w1, List.map_append, List.length_append]
    | true =>
      rcases ht with ⟨ht, rfl⟩ | ⟨ht, ver, rfl, hb⟩
      · simp -implicitDefEqProofs only [go_sem, ↓reduceIte, Nat.reduceEqDiff, Nat.reduceAdd, Nat.reduceSub, Nat.reduceMul, Nat.reduceLeDiff, Nat.reduceLT, Nat.reduceBEq, Nat.reduceBNe, reduceCtorEq, beq_self_eq_true, Int.toNat_natCast, List.length_map, List.length_nil, Int.reduceToNat, Int.reduceAdd, Int.reduceSub, Int.reduceMul, Int.reduceLT, Int.reduceLE, Int.reduceEq, Int.reduceBEq, Int.reduceNeg, decide_true, decide_false, Nat.le_max_left, Nat.le_max_right, ne_eq, not_true_eq_false, not_false_eq_true, Int.natCast_zero, gt_iff_lt, ge_iff_le, Int.reduceGT, Int.reduceGE, Bool.false_and, Bool.and_false, Bool.true_and, Bool.and_true, ir28_l2, e2, e3, e4, e7, h2, h4, h15, d1, w1, F1, F2, F3, F4, F5, F6, F7, F8, w2, cu, nr, wA]
        refine .next (m := k - 1) (by omega) ⟨ts ++ [⟨v1, v2, v3, v4, v8, v5, v6⟩], i8, _, _, .ms 121 ((hg H 121).ver + 1) 0 1 1, ⟨?_, ?_, ?_, ?_, ?_, ?_, by omega⟩, hzc.keep ?_ ?_, SlB.mk ?_ ?_ ?_, by omega, ?_, by simp; omega, hm _ (by omega) (by omega)⟩ <;> simp -implicitDefEqProofs only [go_sem, ↓reduceIte, Nat.reduceEqDiff, Nat.reduceAdd, Nat.reduceSub, Nat.reduceMul, Nat.reduceLeDiff, Nat.reduceLT, Nat.reduceBEq, Nat.reduceBNe, reduceCtorEq, beq_self_eq_true, Int.toNat_natCast, List.length_map, List.length_nil, Int.reduceToNat, Int.reduceAdd, Int.reduceSub, Int.reduceMul, Int.reduceLT, Int.reduceLE, Int.reduceEq, Int.reduceBEq, Int.reduceNeg, decide_true, decide_false, Nat.le_max_left, Nat.le_max_right, ne_eq, not_true_eq_false, not_false_eq_true, Int.natCast_zero, gt_iff_lt, ge_iff_le, Int.reduceGT, Int.reduceGE, Bool.false_and, Bool.and_false, Bool.true_and, Bool.and_true, e2, e3, e4, e7, h2, h4, h15, w1, List.map_append, ht]
      · simp -implicitDefEqProofs only [go_sem, ↓reduceIte, Nat.reduceEqDiff, Nat.reduceAdd, Nat.reduceSub, Nat.reduceMul, Nat.reduceLeDiff, Nat.reduceLT, Nat.reduceBEq, Nat.reduceBNe, reduceCtorEq, beq_self_eq_true, Int.toNat_natCast, List.length_map, List.length_nil, Int.reduceToNat, Int.reduceAdd, Int.reduceSub, Int.reduceMul, Int.reduceLT, Int.reduceLE, Int.reduceEq, Int.reduceBEq, Int.reduceNeg, decide_true, decide_false, Nat.le_max_left, Nat.le_max_right, ne_eq, not_true_eq_false, not_false_eq_true, Int.natCast_zero, gt_iff_lt, ge_iff_le, Int.reduceGT, Int.reduceGE, Bool.false_and, Bool.and_false, Bool.true_and, Bool.and_true, ir28_l2, e2, e3, e4, e7, h2, h4, h15, d1, w1, F1, F2, F3, F4, F5, F6, F7, F8, w2, cu, nr, wA, hb, c1', c2', ht']
        refine .next (m := k - 1) (by omega) ⟨ts ++ [⟨v1, v2, v3, v4, v8, v5, v6⟩], i8, _, _, .ms 121 (ver + 1 + 1) 0 (ts.length + 1) (ts.length + 1), ⟨?_, ?_, ?_, ?_, ?_, ?_, by omega⟩, hzc.keep ?_ ?_, SlB.mk ?_ ?_ ?_, by omega, ?_, by simp; omega, hm _ (by omega) (by omega)⟩ <;> simp -implicitDefEqProofs only [go_sem, ↓reduceIte, Nat.reduceEqDiff, Nat.reduceAdd, Nat.reduceSub, Nat.reduceMul, Nat.reduceLeDiff, Nat.reduceLT, Nat.reduceBEq, Nat.reduceBNe, reduceCtorEq, beq_self_eq_true, Int.toNat_natCast, List.length_map, List.length_nil, Int.reduceToNat, Int.reduceAdd, Int.reduceSub, Int.reduceMul, Int.reduceLT, Int.reduceLE, Int.reduceEq, Int.reduceBEq, Int.reduceNeg, decide_true, decide_false, Nat.le_max_left, Nat.le_max_right, ne_eq, not_true_eq_false, not_false_eq_true, Int.natCast_zero, gt_iff_lt, ge_iff_le, Int.reduceGT, Int.reduceGE, Bool.false_and, Bool.and_false, Bool.true_and, Bool.and_true, e2, e3, e4, e7, h2, h4, h15, w1, List.map_append, List.length_append]
/-- Zones, cells and tenants are there. -/
structure ZT (r : Int) (zs : List Int) (cs : List Cell) (ts : List Ten) (H : VHeap) (zv cv tv : DV) : Prop where
  z : SlB H 49 1 (zs.map eI) zv
  c : SlB H 78 2 (cs.map eC) cv
  t : SlB H 121 7 (ts.map eT) tv
theorem ZT.keep {r : Int} {zs : List Int} {cs : List Cell} {ts : List Ten} {H H' : VHeap} {zv cv tv : DV} (h : ZT r zs cs ts H zv cv tv) (h1 : hg H' 49 = hg H 49) (h2 : hg H' 78 = hg H 78) (h3 : hg H' 121 = hg H 121) : ZT r zs cs ts H' zv cv tv := ⟨h.z.keep h1, h.c.keep h2, h.t.keep h3⟩
structure VerOk (v : Ver) : Prop where
  l0 : 0 ≤ v.low
  l1 : v.low ≤ 1
  h0 : v.low ≤ v.high
  h1 : v.high ≤ v.low + 2
/-- The versions lie in one of two blocks. -/
def SlV (H : VHeap) (vs : List Ver) (v : DV) : Prop := vs ≠ [] ∧ ∃ b ver, (b = 126 ∨ b = 145) ∧ v = .ms b ver 0 (vs.map eV).length (vs.map eV).length ∧ hg H b = ⟨ver, 2, true, vs.map eV⟩
theorem SlV.keep {H H' : VHeap} {vs : List Ver} {v : DV} (h : SlV H vs v) (h1 : hg H' 126 = hg H 126) (h2 : hg H' 145 = hg H 145) : SlV H' vs v := by
  obtain ⟨h0, b, ver, hb, hv, hh⟩ := h
  refine ⟨h0, b, ver, hb, hv, ?_⟩
  rcases hb with rfl | rfl
  · rw [h1]; exact hh
  · rw [h2]; exact hh
def L3 (L : List Int) (r bl le ba : Int) (zs : List Int) (cs : List Cell) (ts : List Ten) (k : Nat) (s : VSt) : Prop := ∃ (vs : List Ver) (i : Nat) (zv cv tv vv : DV), CS L s i r bl le ba zv cv tv vv nilV nilV ∧ ZT r zs cs ts s.H zv cv tv ∧
  SlV s.H vs vv ∧ i + 10 * k ≤ 180 ∧ gt .bad s.E 10 = dI (k : Nat) ∧ vs.length + k ≤ 3 ∧ (∀ v, v ∈ vs → VerOk v) ∧ ∀ v, vs.head? = some v → v.low = 0
def Q3 (L : List Int) (r bl le ba : Int) (zs : List Int) (cs : List Cell) (ts : List Ten) (e : Ex) (s : VSt) : Prop := e = .exit 6 ∧ ∃ (vs : List Ver) (i : Nat) (zv cv tv vv : DV), CS L s i r bl le ba zv cv tv vv nilV nilV ∧ ZT r zs cs ts s.H zv cv tv ∧
  SlV s.H vs vv ∧ i ≤ 180 ∧ vs.length ≤ 3 ∧ (∀ v, v ∈ vs → VerOk v) ∧ ∀ v, vs.head? = some v → v.low = 0
theorem config_l3 (L : List Int) (hL : I64s L) (r bl le ba : Int) (zs : List Int) (cs : List Cell) (ts : List Ten) : ∀ (k : Nat) s, L3 L r bl le ba zs cs ts k s → Ok (R PP shF 0 182 (.loop ir28_l3) s) (Q3 L r bl le ba zs cs ts) := by
  refine Ok_dn (L3 L r bl le ba zs cs ts) fun k s hI => ?_
  obtain ⟨vs, i, zv, cv, tv, vv, C, hzc, ht, hi, e7, len, rg, hd⟩ := hI
  obtain ⟨E, H⟩ := s
  obtain ⟨e2, e3, e4, h2, h4, h15, hi0⟩ := C
  simp only at e2 e3 e4 h2 h4 h15 e7 hzc ht
  by_cases hk : k = 0
  · subst hk
    simp -implicitDefEqProofs only [go_sem, ↓reduceIte, Nat.reduceEqDiff, Nat.reduceAdd, Nat.reduceSub, Nat.reduceMul, Nat.reduceLeDiff, Nat.reduceLT, Nat.reduceBEq, Nat.reduceBNe, reduceCtorEq, beq_self_eq_true, Int.toNat_natCast, List.length_map, List.length_nil, Int.reduceToNat, Int.reduceAdd, Int.reduceSub, Int.reduceMul, Int.reduceLT, Int.reduceLE, Int.reduceEq, Int.reduceBEq, Int.reduceNeg, decide_true, decide_false, Nat.le_max_left, Nat.le_max_right, ne_eq, not_true_eq_false, not_false_eq_true, Int.natCast_zero, gt_iff_lt, ge_iff_le, Int.reduceGT, Int.reduceGE, Bool.false_and, Bool.and_false, Bool.true_and, Bool.and_true, ir28_l3, e7]
    refine .exit ⟨rfl, vs, i, zv, cv, tv, vv, ⟨?_, ?_, ?_, ?_, ?_, ?_, by omega⟩, hzc.keep ?_ ?_ ?_, ht.keep ?_ ?_, by omega, by omega, rg, hd⟩ <;> simp -implicitDefEqProofs only [go_sem, ↓reduceIte, Nat.reduceEqDiff, Nat.reduceAdd, Nat.reduceSub, Nat.reduceMul, Nat.reduceLeDiff, Nat.reduceLT, Nat.reduceBEq, Nat.reduceBNe, reduceCtorEq, beq_self_eq_true, Int.toNat_natCast, List.length_map, List.length_nil, Int.reduceToNat, Int.reduceAdd, Int.reduceSub, Int.reduceMul, Int.reduceLT, Int.reduceLE, Int.reduceEq, Int.reduceBEq, Int.reduceNeg, decide_true, decide_false, Nat.le_max_left, Nat.le_max_right, ne_eq, not_true_eq_false, not_false_eq_true, Int.natCast_zero, gt_iff_lt, ge_iff_le, Int.reduceGT, Int.reduceGE, Bool.false_and, Bool.and_false, Bool.true_and, Bool.and_true, e2, e3, e4, h2, h4, h15]
  · have d1 : decide (0 < (k : Int)) = true := by simp; omega
    have w1 : IntKind.wrap .i64 ((k : Int) - 1) = ((k - 1 : Nat) : Int) := by rw [w64 (by omega) (by omega)]; omega
    obtain ⟨v1, i1, a1, b1, c1, d1', F1⟩ := Next_ex L i 2 hL (by omega) (by omega) (by omega)
    obtain ⟨v2, i2, a2, b2, c2, d2', F2⟩ := Next_ex L i1 3 hL (by omega) (by omega) (by omega)
    have w2 : IntKind.wrap .i64 (v1 + v2) = v1 + v2 := w64 (by omega) (by omega)
    have c1' : ¬ vs.length + 1 ≤ vs.length := by omega
    have c2' : (vs.length + 1) * 16 ≤ 140737488355328 ∧ vs.length ≤ 9223372036854775806 := by omega
    have ht' : List.take vs.length (vs.map eV) = vs.map eV := List.take_of_length_le (by simp)
    obtain ⟨h0, b, ver, hb, rfl, hh⟩ := ht
    have hm : ∀ t, t ∈ vs ++ [⟨v1, v1 + v2⟩] → VerOk t := by
      intro t hx
      rcases List.mem_append.1 hx with hx | hx
      · exact rg t hx
      · simp at hx; subst hx
        constructor <;> simp only <;> omega
    have hd' : ∀ v : Ver, (vs ++ [(⟨v1, v1 + v2⟩ : Ver)]).head? = some v → v.low = 0 := by
      intro v hv
      refine hd v ?_
      cases vs with
      | nil => exact absurd rfl h0
      | cons a l => exact hv
    have hne : vs ++ [(⟨v1, v1 + v2⟩ : Ver)] ≠ [] := by simp
    rcases hb with rfl | rfl
    · simp -implicitDefEqProofs only [go_sem, ↓reduceIte, Nat.reduceEqDiff, Nat.reduceAdd, Nat.reduceSub, Nat.reduceMul, Nat.reduceLeDiff, Nat.reduceLT, Nat.reduceBEq, Nat.reduceBNe, reduceCtorEq, beq_self_eq_true, Int.toNat_natCast, List.length_map, List.length_nil, Int.reduceToNat, Int.reduceAdd, Int.reduceSub, Int.reduceMul, Int.reduceLT, Int.reduceLE, Int.reduceEq, Int.reduceBEq, Int.reduceNeg, decide_true, decide_false, Nat.le_max_left, Nat.le_max_right, ne_eq, not_true_eq_false, not_false_eq_true, Int.natCast_zero, gt_iff_lt, ge_iff_le, Int.reduceGT, Int.reduceGE, Bool.false_and, Bool.and_false, Bool.true_and, Bool.and_true, ir28_l3, e2, e3, e4, e7, h2, h4, h15, d1, w1, F1, F2, w2, hh, c1', c2', ht']
      refine .next (m := k - 1) (by omega) ⟨vs ++ [⟨v1, v1 + v2⟩], i2, _, _, _, .ms 145 ((hg H 145).ver + 1) 0 (vs.length + 1) (vs.length + 1), ⟨?_, ?_, ?_, ?_, ?_, ?_, by omega⟩, hzc.keep ?_ ?_ ?_, ⟨hne, 145, (hg H 145).ver + 1, .inr rfl, ?_, ?_⟩, by omega, ?_, by simp; omega, hm, hd'⟩ <;> simp -implicitDefEqProofs only [go_sem, ↓reduceIte, Nat.reduceEqDiff, Nat.reduceAdd, Nat.reduceSub, Nat.reduceMul, Nat.reduceLeDiff, Nat.reduceLT, Nat.reduceBEq, Nat.reduceBNe, reduceCtorEq, beq_self_eq_true, Int.toNat_natCast, List.length_map, List.length_nil, Int.reduceToNat, Int.reduceAdd, Int.reduceSub, Int.reduceMul, Int.reduceLT, Int.reduceLE, Int.reduceEq, Int.reduceBEq, Int.reduceNeg, decide_true, decide_false, Nat.le_max_left, Nat.le_max_right, ne_eq, not_true_eq_false, not_false_eq_true, Int.natCast_zero, gt_iff_lt, ge_iff_le, Int.reduceGT, Int.reduceGE, Bool.false_and, Bool.and_false, Bool.true_and, Bool.and_true, e2, e3, e4, e7, h2, h4, h15, w1, List.map_append, List.length_append]
    · simp -implicitDefEqProofs only [go_sem, ↓reduceIte, Nat.reduceEqDiff, Nat.reduceAdd, Nat.reduceSub, Nat.reduceMul, Nat.reduceLeDiff, Nat.reduceLT, Nat.reduceBEq, Nat.reduceBNe, reduceCtorEq, beq_self_eq_true, Int.toNat_natCast, List.length_map, List.length_nil, Int.reduceToNat, Int.reduceAdd, Int.reduceSub, Int.reduceMul, Int.reduceLT, Int.reduceLE, Int.reduceEq, Int.reduceBEq, Int.reduceNeg, decide_true, decide_false, Nat.le_max_left, Nat.le_max_right, ne_eq, not_true_eq_false, not_false_eq_true, Int.natCast_zero, gt_iff_lt, ge_iff_le, Int.reduceGT, Int.reduceGE, Bool.false_and, Bool.and_false, Bool.true_and, Bool.and_true, ir28_l3, e2, e3, e4, e7, h2, h4, h15, d1, w1, F1, F2, w2, hh, c1', c2', ht']
      refine .next (m := k - 1) (by omega) ⟨vs ++ [⟨v1, v1 + v2⟩], i2, _, _, _, .ms 145 (ver + 1 + 1) 0 (vs.length + 1) (vs.length + 1), ⟨?_, ?_, ?_, ?_, ?_, ?_, by omega⟩, hzc.keep ?_ ?_ ?_, ⟨hne, 145, ver + 1 + 1, .inr rfl, ?_, ?_⟩, by omega, ?_, by simp; omega, hm, hd'⟩ <;> simp -implicitDefEqProofs only [go_sem, ↓reduceIte, Nat.reduceEqDiff, Nat.reduceAdd, Nat.reduceSub, Nat.reduceMul, Nat.reduceLeDiff, Nat.reduceLT, Nat.reduceBEq, Nat.reduceBNe, reduceCtorEq, beq_self_eq_true, Int.toNat_natCast, List.length_map, List.length_nil, Int.reduceToNat, Int.reduceAdd, Int.reduceSub, Int.reduceMul, Int.reduceLT, Int.reduceLE, Int.reduceEq, Int.reduceBEq, Int.reduceNeg, decide_true, decide_false, Nat.le_max_left, Nat.le_max_right, ne_eq, not_true_eq_false, not_false_eq_true, Int.natCast_zero, gt_iff_lt, ge_iff_le, Int.reduceGT, Int.reduceGE, Bool.false_and, Bool.and_false, Bool.true_and, Bool.and_true, e2, e3, e4, e7, h2, h4, h15, w1, List.map_append, List.length_append]
/-- Zones, cells, tenants, versions (and replicas) are there. -/
structure ZV (r : Int) (zs : List Int) (cs : List Cell) (ts : List Ten) (vs : List Ver) (rs : List Int) (H : VHeap) (zv cv tv vv rv : DV) : Prop where
  z : SlB H 49 1 (zs.map eI) zv
  c : SlB H 78 2 (cs.map eC) cv
  t : SlB H 121 7 (ts.map eT) tv
  v : SlV H vs vv
  r : SlB H 163 1 (rs.map eI) rv
theorem ZV.keep {r : Int} {zs : List Int} {cs : List Cell} {ts : List Ten} {vs : List Ver} {rs : List Int} {H H' : VHeap} {zv cv tv vv rv : DV} (h : ZV r zs cs ts vs rs H zv cv tv vv rv) (h1 : hg H' 49 = hg H 49) (h2 : hg H' 78 = hg H 78) (h3 : hg H' 121 = hg H 121) (h4 : hg H' 126 = hg H 126) (h5 : hg H' 145 = hg H 145) (h6 : hg H' 163 = hg H 163) : ZV r zs cs ts vs rs H' zv cv tv vv rv := ⟨h.z.keep h1, h.c.keep h2, h.t.keep h3, h.v.keep h4 h5, h.r.keep h6⟩
structure ZR (r : Int) (zs : List Int) (cs : List Cell) (ts : List Ten) (vs : List Ver) (H : VHeap) (zv cv tv vv : DV) : Prop where
  z : SlB H 49 1 (zs.map eI) zv
  c : SlB H 78 2 (cs.map eC) cv
  t : SlB H 121 7 (ts.map eT) tv
  v : SlV H vs vv
theorem ZR.keep {r : Int} {zs : List Int} {cs : List Cell} {ts : List Ten} {vs : List Ver} {H H' : VHeap} {zv cv tv vv : DV} (h : ZR r zs cs ts vs H zv cv tv vv) (h1 : hg H' 49 = hg H 49) (h2 : hg H' 78 = hg H 78) (h3 : hg H' 121 = hg H 121) (h4 : hg H' 126 = hg H 126) (h5 : hg H' 145 = hg H 145) : ZR r zs cs ts vs H' zv cv tv vv := ⟨h.z.keep h1, h.c.keep h2, h.t.keep h3, h.v.keep h4 h5⟩
def L4 (L : List Int) (r bl le ba : Int) (zs : List Int) (cs : List Cell) (ts : List Ten) (vs : List Ver) (rs : List Int) (N : Nat) (k : Nat) (s : VSt) : Prop := ∃ (os : List Int) (i : Nat) (zv cv tv vv rv ov : DV), CS L s i r bl le ba zv cv tv vv rv nilV ∧ ZR r zs cs ts vs s.H zv cv tv vv ∧
  SlB s.H 163 1 (os.map eI) rv ∧ i + 10 * k ≤ 240 ∧ gt .bad s.E 12 = dI (k : Nat) ∧ os.length + k = N ∧ ∀ z, z ∈ os → 0 ≤ z ∧ z < zs.length
def Q4 (L : List Int) (r bl le ba : Int) (zs : List Int) (cs : List Cell) (ts : List Ten) (vs : List Ver) (rs : List Int) (N : Nat) (e : Ex) (s : VSt) : Prop := e = .exit 8 ∧ ∃ (os : List Int) (i : Nat) (zv cv tv vv rv ov : DV), CS L s i r bl le ba zv cv tv vv rv nilV ∧ ZR r zs cs ts vs s.H zv cv tv vv ∧
  SlB s.H 163 1 (os.map eI) rv ∧ i ≤ 240 ∧ os.length = N ∧ ∀ z, z ∈ os → 0 ≤ z ∧ z < zs.length
theorem config_l4 (L : List Int) (hL : I64s L) (r bl le ba : Int) (zs : List Int) (hz0 : 1 ≤ zs.length) (hz6 : zs.length ≤ 6) (cs : List Cell) (ts : List Ten) (vs : List Ver) (rs : List Int) (N : Nat) (hN : N ≤ 4) : ∀ (k : Nat) s, L4 L r bl le ba zs cs ts vs rs N k s → Ok (R PP shF 0 182 (.loop ir28_l4) s) (Q4 L r bl le ba zs cs ts vs rs N) := by
  refine Ok_dn (L4 L r bl le ba zs cs ts vs rs N) fun k s hI => ?_
  obtain ⟨os, i, zv, cv, tv, vv, rv, ov, C, hzc, ht, hi, e7, len, rg⟩ := hI
  obtain ⟨E, H⟩ := s
  obtain ⟨e2, e3, e4, h2, h4, h15, hi0⟩ := C
  simp only at e2 e3 e4 h2 h4 h15 e7 hzc ht
  by_cases hk : k = 0
  · subst hk
    simp -implicitDefEqProofs only [go_sem, ↓reduceIte, Nat.reduceEqDiff, Nat.reduceAdd, Nat.reduceSub, Nat.reduceMul, Nat.reduceLeDiff, Nat.reduceLT, Nat.reduceBEq, Nat.reduceBNe, reduceCtorEq, beq_self_eq_true, Int.toNat_natCast, List.length_map, List.length_nil, Int.reduceToNat, Int.reduceAdd, Int.reduceSub, Int.reduceMul, Int.reduceLT, Int.reduceLE, Int.reduceEq, Int.reduceBEq, Int.reduceNeg, decide_true, decide_false, Nat.le_max_left, Nat.le_max_right, ne_eq, not_true_eq_false, not_false_eq_true, Int.natCast_zero, gt_iff_lt, ge_iff_le, Int.reduceGT, Int.reduceGE, Bool.false_and, Bool.and_false, Bool.true_and, Bool.and_true, ir28_l4, e7]
    refine .exit ⟨rfl, os, i, zv, cv, tv, vv, rv, ov, ⟨?_, ?_, ?_, ?_, ?_, ?_, by omega⟩, hzc.keep ?_ ?_ ?_ ?_ ?_, ht.keep ?_, by omega, by omega, rg⟩ <;> simp -implicitDefEqProofs only [go_sem, ↓reduceIte, Nat.reduceEqDiff, Nat.reduceAdd, Nat.reduceSub, Nat.reduceMul, Nat.reduceLeDiff, Nat.reduceLT, Nat.reduceBEq, Nat.reduceBNe, reduceCtorEq, beq_self_eq_true, Int.toNat_natCast, List.length_map, List.length_nil, Int.reduceToNat, Int.reduceAdd, Int.reduceSub, Int.reduceMul, Int.reduceLT, Int.reduceLE, Int.reduceEq, Int.reduceBEq, Int.reduceNeg, decide_true, decide_false, Nat.le_max_left, Nat.le_max_right, ne_eq, not_true_eq_false, not_false_eq_true, Int.natCast_zero, gt_iff_lt, ge_iff_le, Int.reduceGT, Int.reduceGE, Bool.false_and, Bool.and_false, Bool.true_and, Bool.and_true, e2, e3, e4, h2, h4, h15]
  · have d1 : decide (0 < (k : Int)) = true := by simp; omega
    have w1 : IntKind.wrap .i64 ((k : Int) - 1) = ((k - 1 : Nat) : Int) := by rw [w64 (by omega) (by omega)]; omega
    obtain ⟨v1, i1, a1, b1, c1, d1', F1⟩ := Next_ex L i zs.length hL (by omega) (by omega) (by omega)
    have c1' : ¬ os.length + 1 ≤ os.length := by omega
    have c2' : (os.length + 1) * 8 ≤ 140737488355328 ∧ os.length ≤ 9223372036854775806 := by omega
    have ht' : List.take os.length (os.map eI) = os.map eI := List.take_of_length_le (by simp)
    have hz := hzc.z
    rcases hz with ⟨hz, rfl⟩ | ⟨hz, verz, rfl, hbz⟩
    · exfalso
      have : zs = [] := by simpa using hz
      subst this; simp at hz0
    have hm : ∀ t, t ∈ os ++ [v1] → 0 ≤ t ∧ t < zs.length := by
      intro t hx
      rcases List.mem_append.1 hx with hx | hx
      · exact rg t hx
      · simp at hx; subst hx; omega
    rcases ht with ⟨ht, rfl⟩ | ⟨ht, ver, rfl, hb⟩
    · simp -implicitDefEqProofs only [go_sem, ↓reduceIte, Nat.reduceEqDiff, Nat.reduceAdd, Nat.reduceSub, Nat.reduceMul, Nat.reduceLeDiff, Nat.reduceLT, Nat.reduceBEq, Nat.reduceBNe, reduceCtorEq, beq_self_eq_true, Int.toNat_natCast, List.length_map, List.length_nil, Int.reduceToNat, Int.reduceAdd, Int.reduceSub, Int.reduceMul, Int.reduceLT, Int.reduceLE, Int.reduceEq, Int.reduceBEq, Int.reduceNeg, decide_true, decide_false, Nat.le_max_left, Nat.le_max_right, ne_eq, not_true_eq_false, not_false_eq_true, Int.natCast_zero, gt_iff_lt, ge_iff_le, Int.reduceGT, Int.reduceGE, Bool.false_and, Bool.and_false, Bool.true_and, Bool.and_true, ir28_l4, e2, e3, e4, e7, h2, h4, h15, d1, w1, F1, hbz]
      refine .next (m := k - 1) (by omega) ⟨os ++ [v1], i1, _, _, _, _, .ms 163 ((hg H 163).ver + 1) 0 1 1, ov, ⟨?_, ?_, ?_, ?_, ?_, ?_, by omega⟩, hzc.keep ?_ ?_ ?_ ?_ ?_, SlB.mk ?_ ?_ ?_, by omega, ?_, by simp; omega, hm⟩ <;> simp -implicitDefEqProofs only [go_sem, ↓reduceIte, Nat.reduceEqDiff, Nat.reduceAdd, Nat.reduceSub, Nat.reduceMul, Nat.reduceLeDiff, Nat.reduceLT, Nat.reduceBEq, Nat.reduceBNe, reduceCtorEq, beq_self_eq_true, Int.toNat_natCast, List.length_map, List.length_nil, Int.reduceToNat, Int.reduceAdd, Int.reduceSub, Int.reduceMul, Int.reduceLT, Int.reduceLE, Int.reduceEq, Int.reduceBEq, Int.reduceNeg, decide_true, decide_false, Nat.le_max_left, Nat.le_max_right, ne_eq, not_true_eq_false, not_false_eq_true, Int.natCast_zero, gt_iff_lt, ge_iff_le, Int.reduceGT, Int.reduceGE, Bool.false_and, Bool.and_false, Bool.true_and, Bool.and_true, e2, e3, e4, e7, h2, h4, h15, w1, List.map_append, ht]
    · simp -implicitDefEqProofs only [go_sem, ↓reduceIte, Nat.reduceEqDiff, Nat.reduceAdd, Nat.reduceSub, Nat.reduceMul, Nat.reduceLeDiff, Nat.reduceLT, Nat.reduceBEq, Nat.reduceBNe, reduceCtorEq, beq_self_eq_true, Int.toNat_natCast, List.length_map, List.length_nil, Int.reduceToNat, Int.reduceAdd, Int.reduceSub, Int.reduceMul, Int.reduceLT, Int.reduceLE, Int.reduceEq, Int.reduceBEq, Int.reduceNeg, decide_true, decide_false, Nat.le_max_left, Nat.le_max_right, ne_eq, not_true_eq_false, not_false_eq_true, Int.natCast_zero, gt_iff_lt, ge_iff_le, Int.reduceGT, Int.reduceGE, Bool.false_and, Bool.and_false, Bool.true_and, Bool.and_true, ir28_l4, e2, e3, e4, e7, h2, h4, h15, d1, w1, F1, hbz, hb, c1', c2', ht']
      refine .next (m := k - 1) (by omega) ⟨os ++ [v1], i1, _, _, _, _, .ms 163 (ver + 1 + 1) 0 (os.length + 1) (os.length + 1), ov, ⟨?_, ?_, ?_, ?_, ?_, ?_, by omega⟩, hzc.keep ?_ ?_ ?_ ?_ ?_, SlB.mk ?_ ?_ ?_, by omega, ?_, by simp; omega, hm⟩ <;> simp -implicitDefEqProofs only [go_sem, ↓reduceIte, Nat.reduceEqDiff, Nat.reduceAdd, Nat.reduceSub, Nat.reduceMul, Nat.reduceLeDiff, Nat.reduceLT, Nat.reduceBEq, Nat.reduceBNe, reduceCtorEq, beq_self_eq_true, Int.toNat_natCast, List.length_map, List.length_nil, Int.reduceToNat, Int.reduceAdd, Int.reduceSub, Int.reduceMul, Int.reduceLT, Int.reduceLE, Int.reduceEq, Int.reduceBEq, Int.reduceNeg, decide_true, decide_false, Nat.le_max_left, Nat.le_max_right, ne_eq, not_true_eq_false, not_false_eq_true, Int.natCast_zero, gt_iff_lt, ge_iff_le, Int.reduceGT, Int.reduceGE, Bool.false_and, Bool.and_false, Bool.true_and, Bool.and_true, e2, e3, e4, e7, h2, h4, h15, w1, List.map_append, List.length_append]
def L5 (L : List Int) (r bl le ba : Int) (zs : List Int) (cs : List Cell) (ts : List Ten) (vs : List Ver) (rs : List Int) (N : Nat) (k : Nat) (s : VSt) : Prop := ∃ (os : List Int) (i : Nat) (zv cv tv vv rv ov : DV), CS L s i r bl le ba zv cv tv vv rv ov ∧ ZV r zs cs ts vs rs s.H zv cv tv vv rv ∧
  SlB s.H 179 1 (os.map eI) ov ∧ i + 10 * k ≤ 300 ∧ gt .bad s.E 13 = dI (k : Nat) ∧ os.length + k = N ∧ ∀ z, z ∈ os → 0 ≤ z ∧ z < zs.length
def Q5 (L : List Int) (r bl le ba : Int) (zs : List Int) (cs : List Cell) (ts : List Ten) (vs : List Ver) (rs : List Int) (N : Nat) (e : Ex) (s : VSt) : Prop := e = .exit 10 ∧ ∃ (os : List Int) (i : Nat) (zv cv tv vv rv ov : DV), CS L s i r bl le ba zv cv tv vv rv ov ∧ ZV r zs cs ts vs rs s.H zv cv tv vv rv ∧
  SlB s.H 179 1 (os.map eI) ov ∧ i ≤ 300 ∧ os.length = N ∧ ∀ z, z ∈ os → 0 ≤ z ∧ z < zs.length
theorem config_l5 (L : List Int) (hL : I64s L) (r bl le ba : Int) (zs : List Int) (hz0 : 1 ≤ zs.length) (hz6 : zs.length ≤ 6) (cs : List Cell) (ts : List Ten) (vs : List Ver) (rs : List Int) (N : Nat) (hN : N ≤ 4) : ∀ (k : Nat) s, L5 L r bl le ba zs cs ts vs rs N k s → Ok (R PP shF 0 182 (.loop ir28_l5) s) (Q5 L r bl le ba zs cs ts vs rs N) := by
  refine Ok_dn (L5 L r bl le ba zs cs ts vs rs N) fun k s hI => ?_
  obtain ⟨os, i, zv, cv, tv, vv, rv, ov, C, hzc, ht, hi, e7, len, rg⟩ := hI
  obtain ⟨E, H⟩ := s
  obtain ⟨e2, e3, e4, h2, h4, h15, hi0⟩ := C
  simp only at e2 e3 e4 h2 h4 h15 e7 hzc ht
  by_cases hk : k = 0
  · subst hk
    simp -implicitDefEqProofs only [go_sem, ↓reduceIte, Nat.reduceEqDiff, Nat.reduceAdd, Nat.reduceSub, Nat.reduceMul, Nat.reduceLeDiff, Nat.reduceLT, Nat.reduceBEq, Nat.reduceBNe, reduceCtorEq, beq_self_eq_true, Int.toNat_natCast, List.length_map, List.length_nil, Int.reduceToNat, Int.reduceAdd, Int.reduceSub, Int.reduceMul, Int.reduceLT, Int.reduceLE, Int.reduceEq, Int.reduceBEq, Int.reduceNeg, decide_true, decide_false, Nat.le_max_left, Nat.le_max_right, ne_eq, not_true_eq_false, not_false_eq_true, Int.natCast_zero, gt_iff_lt, ge_iff_le, Int.reduceGT, Int.reduceGE, Bool.false_and, Bool.and_false, Bool.true_and, Bool.and_true, ir28_l5, e7]
    refine .exit ⟨rfl, os, i, zv, cv, tv, vv, rv, ov, ⟨?_, ?_, ?_, ?_, ?_, ?_, by omega⟩, hzc.keep ?_ ?_ ?_ ?_ ?_ ?_, ht.keep ?_, by omega, by omega, rg⟩ <;> simp -implicitDefEqProofs only [go_sem, ↓reduceIte, Nat.reduceEqDiff, Nat.reduceAdd, Nat.reduceSub, Nat.reduceMul, Nat.reduceLeDiff, Nat.reduceLT, Nat.reduceBEq, Nat.reduceBNe, reduceCtorEq, beq_self_eq_true, Int.toNat_natCast, List.length_map, List.length_nil, Int.reduceToNat, Int.reduceAdd, Int.reduceSub, Int.reduceMul, Int.reduceLT, Int.reduceLE, Int.reduceEq, Int.reduceBEq, Int.reduceNeg, decide_true, decide_false, Nat.le_max_left, Nat.le_max_right, ne_eq, not_true_eq_false, not_false_eq_true, Int.natCast_zero, gt_iff_lt, ge_iff_le, Int.reduceGT, Int.reduceGE, Bool.false_and, Bool.and_false, Bool.true_and, Bool.and_true, e2, e3, e4, h2, h4, h15]
  · have d1 : decide (0 < (k : Int)) = true := by simp; omega
    have w1 : IntKind.wrap .i64 ((k : Int) - 1) = ((k - 1 : Nat) : Int) := by rw [w64 (by omega) (by omega)]; omega
    obtain ⟨v1, i1, a1, b1, c1, d1', F1⟩ := Next_ex L i zs.length hL (by omega) (by omega) (by omega)
    have c1' : ¬ os.length + 1 ≤ os.length := by omega
    have c2' : (os.length + 1) * 8 ≤ 140737488355328 ∧ os.length ≤ 9223372036854775806 := by omega
    have ht' : List.take os.length (os.map eI) = os.map eI := List.take_of_length_le (by simp)
    have hz := hzc.z
    rcases hz with ⟨hz, rfl⟩ | ⟨hz, verz, rfl, hbz⟩
    · exfalso
      have : zs = [] := by simpa using hz
      subst this; simp at hz0
    have hm : ∀ t, t ∈ os ++ [v1] → 0 ≤ t ∧ t < zs.length := by
      intro t hx
      rcases List.mem_append.1 hx with hx | hx
      · exact rg t hx
      · simp at hx; subst hx; omega
    rcases ht with ⟨ht, rfl⟩ | ⟨ht, ver, rfl, hb⟩
    · simp -implicitDefEqProofs only [go_sem, ↓reduceIte, Nat.reduceEqDiff, Nat.reduceAdd, Nat.reduceSub, Nat.reduceMul, Nat.reduceLeDiff, Nat.reduceLT, Nat.reduceBEq, Nat.reduceBNe, reduceCtorEq, beq_self_eq_true, Int.toNat_natCast, List.length_map, List.length_nil, Int.reduceToNat, Int.reduceAdd, Int.reduceSub, Int.reduceMul, Int.reduceLT, Int.reduceLE, Int.reduceEq, Int.reduceBEq, Int.reduceNeg, decide_true, decide_false, Nat.le_max_left, Nat.le_max_right, ne_eq, not_true_eq_false, not_false_eq_true, Int.natCast_zero, gt_iff_lt, ge_iff_le, Int.reduceGT, Int.reduceGE, Bool.false_and, Bool.and_false, Bool.true_and, Bool.and_true, ir28_l5, e2, e3, e4, e7, h2, h4, h15, d1, w1, F1, hbz]
      refine .next (m := k - 1) (by omega) ⟨os ++ [v1], i1, _, _, _, _, rv, .ms 179 ((hg H 179).ver + 1) 0 1 1, ⟨?_, ?_, ?_, ?_, ?_, ?_, by omega⟩, hzc.keep ?_ ?_ ?_ ?_ ?_ ?_, SlB.mk ?_ ?_ ?_, by omega, ?_, by simp; omega, hm⟩ <;> simp -implicitDefEqProofs only [go_sem, ↓reduceIte, Nat.reduceEqDiff, Nat.reduceAdd, Nat.reduceSub, Nat.reduceMul, Nat.reduceLeDiff, Nat.reduceLT, Nat.reduceBEq, Nat.reduceBNe, reduceCtorEq, beq_self_eq_true, Int.toNat_natCast, List.length_map, List.length_nil, Int.reduceToNat, Int.reduceAdd, Int.reduceSub, Int.reduceMul, Int.reduceLT, Int.reduceLE, Int.reduceEq, Int.reduceBEq, Int.reduceNeg, decide_true, decide_false, Nat.le_max_left, Nat.le_max_right, ne_eq, not_true_eq_false, not_false_eq_true, Int.natCast_zero, gt_iff_lt, ge_iff_le, Int.reduceGT, Int.reduceGE, Bool.false_and, Bool.and_false, Bool.true_and, Bool.and_true, e2, e3, e4, e7, h2, h4, h15, w1, List.map_append, ht]
    · simp -implicitDefEqProofs only [go_sem, ↓reduceIte, Nat.reduceEqDiff, Nat.reduceAdd, Nat.reduceSub, Nat.reduceMul, Nat.reduceLeDiff, Nat.reduceLT, Nat.reduceBEq, Nat.reduceBNe, reduceCtorEq, beq_self_eq_true, Int.toNat_natCast, List.length_map, List.length_nil, Int.reduceToNat, Int.reduceAdd, Int.reduceSub, Int.reduceMul, Int.reduceLT, Int.reduceLE, Int.reduceEq, Int.reduceBEq, Int.reduceNeg, decide_true, decide_false, Nat.le_max_left, Nat.le_max_right, ne_eq, not_true_eq_false, not_false_eq_true, Int.natCast_zero, gt_iff_lt, ge_iff_le, Int.reduceGT, Int.reduceGE, Bool.false_and, Bool.and_false, Bool.true_and, Bool.and_true, ir28_l5, e2, e3, e4, e7, h2, h4, h15, d1, w1, F1, hbz, hb, c1', c2', ht']
      refine .next (m := k - 1) (by omega) ⟨os ++ [v1], i1, _, _, _, _, rv, .ms 179 (ver + 1 + 1) 0 (os.length + 1) (os.length + 1), ⟨?_, ?_, ?_, ?_, ?_, ?_, by omega⟩, hzc.keep ?_ ?_ ?_ ?_ ?_ ?_, SlB.mk ?_ ?_ ?_, by omega, ?_, by simp; omega, hm⟩ <;> simp -implicitDefEqProofs only [go_sem, ↓reduceIte, Nat.reduceEqDiff, Nat.reduceAdd, Nat.reduceSub, Nat.reduceMul, Nat.reduceLeDiff, Nat.reduceLT, Nat.reduceBEq, Nat.reduceBNe, reduceCtorEq, beq_self_eq_true, Int.toNat_natCast, List.length_map, List.length_nil, Int.reduceToNat, Int.reduceAdd, Int.reduceSub, Int.reduceMul, Int.reduceLT, Int.reduceLE, Int.reduceEq, Int.reduceBEq, Int.reduceNeg, decide_true, decide_false, Nat.le_max_left, Nat.le_max_right, ne_eq, not_true_eq_false, not_false_eq_true, Int.natCast_zero, gt_iff_lt, ge_iff_le, Int.reduceGT, Int.reduceGE, Bool.false_and, Bool.and_false, Bool.true_and, Bool.and_true, e2, e3, e4, e7, h2, h4, h15, w1, List.map_append, List.length_append]
/-- What every configuration out of a tape is. -/
structure ConfOk (k : Conf) : Prop where
  r0 : 1 ≤ k.regions
  r1 : k.regions ≤ 3
  z0 : k.regions ≤ (k.zones.length : Int)
  z1 : k.zones.length ≤ 6
  zs : ∀ z, z ∈ k.zones → 0 ≤ z ∧ z < k.regions
  c0 : k.zones.length ≤ k.cells.length
  c1 : k.cells.length ≤ 7
  cs : ∀ x, x ∈ k.cells → 0 ≤ x.zone ∧ x.zone < (k.zones.length : Int) ∧ 10 ≤ x.cap ∧ x.cap ≤ 40
  t1 : k.tens.length ≤ 5
  ts : ∀ x, x ∈ k.tens → TenOk k.regions x
  v0 : k.vers ≠ []
  v1 : k.vers.length ≤ 3
  vs : ∀ x, x ∈ k.vers → VerOk x
  vh : ∀ v, k.vers.head? = some v → v.low = 0
  ps : k.reps.length = 1 ∨ k.reps.length = 3
  pz : ∀ z, z ∈ k.reps → 0 ≤ z ∧ z < (k.zones.length : Int)
  o0 : 1 ≤ k.obs.length
  o1 : k.obs.length ≤ 4
  oz : ∀ z, z ∈ k.obs → 0 ≤ z ∧ z < (k.zones.length : Int)
  b0 : 1 ≤ k.blast
  b1 : k.blast ≤ 3
  l0 : 2 ≤ k.lease
  l1 : k.lease ≤ 12
  k0 : 0 ≤ k.bake
  k1 : k.bake ≤ 8
theorem closed_eI (l : List Int) : (l.map eI).all closedL = true := by simp [List.all_eq_true, closedL, closedD]
theorem closed_eC (l : List Cell) : (l.map eC).all closedL = true := by simp [List.all_eq_true, closedL, closedD]
theorem closed_eT (l : List Ten) : (l.map eT).all closedL = true := by simp [List.all_eq_true, closedL, closedD]
theorem closed_eV (l : List Ver) : (l.map eV).all closedL = true := by simp [List.all_eq_true, closedL, closedD]
theorem lits_eI (l : List Int) : (l.map eI).all (fun el => el.all lit1) = true := by simp [List.all_eq_true, lit1]
theorem SlV.frz {H : VHeap} {vs : List Ver} {v : DV} (h : SlV H vs v) (n : Nat) : frzD H (n + 1) v = some (.sl (vs.map eV)) := by
  obtain ⟨_, b, ver, _, rfl, hb⟩ := h
  rw [frz_ms, hb]
  have ht : List.take vs.length (vs.map eV) = vs.map eV := List.take_of_length_le (by simp)
  simp only [VB.part, Nat.zero_add, Nat.le_refl, and_self, ne_eq, ↓reduceIte, List.drop_zero, List.length_map, ht, Option.bind_some, closed_eV, Nat.reduceEqDiff, not_false_eq_true, reduceCtorEq, and_true, true_and]
theorem SlV.one {H : VHeap} {vs : List Ver} {v : DV} (h : SlV H vs v) : oneD v = true := by
  obtain ⟨_, b, ver, _, rfl, _⟩ := h; rfl
theorem FV_Config (l : List Int) (hl : I64s l) : ∃ c, ConfOk c ∧ FV PP shF 28 [dL l] = some (.agg (eK c)) := by
  obtain ⟨v1, i1, a1, b1, c1, d1, F1⟩ := Next_ex l 0 5 hl (by omega) (by omega) (by omega)
  obtain ⟨v2, i2, a2, b2, c2, d2, F2⟩ := Range_ex l i1 1 3 hl (by omega) (by omega) (by omega) (by omega)
  obtain ⟨v3, i3, a3, b3, c3, d3, F3⟩ := Range_ex l i2 2 12 hl (by omega) (by omega) (by omega) (by omega)
  obtain ⟨v4, i4, a4, b4, c4, d4, F4⟩ := Next_ex l i3 9 hl (by omega) (by omega) (by omega)
  have w1 : IntKind.wrap .i64 (v1 + 1) = v1 + 1 := w64 (by omega) (by omega)
  have B1 := FV_Between (v1 + 1) 1 3 ⟨by omega, by omega⟩ (by omega) (by omega) (by omega)
  have hr : 1 ≤ 1 + (v1 + 1) % (3 - 1 + 1) ∧ 1 + (v1 + 1) % (3 - 1 + 1) ≤ 3 := by omega
  generalize 1 + (v1 + 1) % (3 - 1 + 1) = r at B1 hr
  suffices hs : OkF (F PP shF 28 [dL l] [] 0) (fun d H => ∃ c, ConfOk c ∧ frzD H 6 d = some (.agg (eK c))) by
    obtain ⟨d, H, h1, c, h2, h3⟩ := hs
    exact ⟨c, h2, FV_of h1 h3⟩
  refine F_ok PP28 rfl ⟨by simp [ir28], by simp⟩ ?_
  simp -implicitDefEqProofs only [go_sem, ↓reduceIte, Nat.reduceEqDiff, Nat.reduceAdd, Nat.reduceSub, Nat.reduceMul, Nat.reduceLeDiff, Nat.reduceLT, Nat.reduceBEq, Nat.reduceBNe, reduceCtorEq, beq_self_eq_true, Int.toNat_natCast, List.length_map, List.length_nil, Int.reduceToNat, Int.reduceAdd, Int.reduceSub, Int.reduceMul, Int.reduceLT, Int.reduceLE, Int.reduceEq, Int.reduceBEq, Int.reduceNeg, decide_true, decide_false, Nat.le_max_left, Nat.le_max_right, ne_eq, not_true_eq_false, not_false_eq_true, Int.natCast_zero, gt_iff_lt, ge_iff_le, Int.reduceGT, Int.reduceGE, Bool.false_and, Bool.and_false, Bool.true_and, Bool.and_true, ir28, vp_New, F1, F2, F3, F4, w1, vpS B1 rfl]
  refine (config_l0 l hl r v2 v3 v4 hr 0 _ ?_).mono ?_
  · refine ⟨[], i4, _, ⟨?_, ?_, ?_, ?_, ?_, ?_, by omega⟩, SlB.nil, by omega, ?_, rfl, by omega, by simp⟩ <;> simp -implicitDefEqProofs only [go_sem, ↓reduceIte, Nat.reduceEqDiff, Nat.reduceAdd, Nat.reduceSub, Nat.reduceMul, Nat.reduceLeDiff, Nat.reduceLT, Nat.reduceBEq, Nat.reduceBNe, reduceCtorEq, beq_self_eq_true, Int.toNat_natCast, List.length_map, List.length_nil, Int.reduceToNat, Int.reduceAdd, Int.reduceSub, Int.reduceMul, Int.reduceLT, Int.reduceLE, Int.reduceEq, Int.reduceBEq, Int.reduceNeg, decide_true, decide_false, Nat.le_max_left, Nat.le_max_right, ne_eq, not_true_eq_false, not_false_eq_true, Int.natCast_zero, gt_iff_lt, ge_iff_le, Int.reduceGT, Int.reduceGE, Bool.false_and, Bool.and_false, Bool.true_and, Bool.and_true, ]
  rintro e ⟨E, H⟩ ⟨rfl, zs, i, zv, ⟨e2, e3, e4, h2, h4, h15, hi0⟩, hz, hi, hzr, hz6, rgz⟩
  simp only at e2 e3 e4 h2 h4 h15 hz
  simp -implicitDefEqProofs only [go_sem, ↓reduceIte, Nat.reduceEqDiff, Nat.reduceAdd, Nat.reduceSub, Nat.reduceMul, Nat.reduceLeDiff, Nat.reduceLT, Nat.reduceBEq, Nat.reduceBNe, reduceCtorEq, beq_self_eq_true, Int.toNat_natCast, List.length_map, List.length_nil, Int.reduceToNat, Int.reduceAdd, Int.reduceSub, Int.reduceMul, Int.reduceLT, Int.reduceLE, Int.reduceEq, Int.reduceBEq, Int.reduceNeg, decide_true, decide_false, Nat.le_max_left, Nat.le_max_right, ne_eq, not_true_eq_false, not_false_eq_true, Int.natCast_zero, gt_iff_lt, ge_iff_le, Int.reduceGT, Int.reduceGE, Bool.false_and, Bool.and_false, Bool.true_and, Bool.and_true, ]
  refine (config_l1 l hl r v2 v3 v4 zs (by omega) hz6 0 _ ?_).mono ?_
  · refine ⟨[], i, zv, _, ⟨?_, ?_, ?_, ?_, ?_, ?_, by omega⟩, hz.keep ?_, SlB.nil, by omega, ?_, rfl, by omega, by simp⟩ <;> simp -implicitDefEqProofs only [go_sem, ↓reduceIte, Nat.reduceEqDiff, Nat.reduceAdd, Nat.reduceSub, Nat.reduceMul, Nat.reduceLeDiff, Nat.reduceLT, Nat.reduceBEq, Nat.reduceBNe, reduceCtorEq, beq_self_eq_true, Int.toNat_natCast, List.length_map, List.length_nil, Int.reduceToNat, Int.reduceAdd, Int.reduceSub, Int.reduceMul, Int.reduceLT, Int.reduceLE, Int.reduceEq, Int.reduceBEq, Int.reduceNeg, decide_true, decide_false, Nat.le_max_left, Nat.le_max_right, ne_eq, not_true_eq_false, not_false_eq_true, Int.natCast_zero, gt_iff_lt, ge_iff_le, Int.reduceGT, Int.reduceGE, Bool.false_and, Bool.and_false, Bool.true_and, Bool.and_true, e2, e3, e4, h2, h4, h15]
  clear e2 e3 e4 h2 h4 h15 hz hi hi0 F1 F2 F3 F4 c1 c2 c3 c4 d1 d2 d3 d4 B1
  rintro e ⟨E, H⟩ ⟨rfl, cs, i, zv, cv, ⟨e2, e3, e4, h2, h4, h15, hi0⟩, hz, hc, hi, hc0, hc7, rgc⟩
  simp only at e2 e3 e4 h2 h4 h15 hz hc
  obtain ⟨u1, j1, p1, q1, c1, d1, F1⟩ := Next_ex l i 6 hl (by omega) (by omega) (by omega)
  simp -implicitDefEqProofs only [go_sem, ↓reduceIte, Nat.reduceEqDiff, Nat.reduceAdd, Nat.reduceSub, Nat.reduceMul, Nat.reduceLeDiff, Nat.reduceLT, Nat.reduceBEq, Nat.reduceBNe, reduceCtorEq, beq_self_eq_true, Int.toNat_natCast, List.length_map, List.length_nil, Int.reduceToNat, Int.reduceAdd, Int.reduceSub, Int.reduceMul, Int.reduceLT, Int.reduceLE, Int.reduceEq, Int.reduceBEq, Int.reduceNeg, decide_true, decide_false, Nat.le_max_left, Nat.le_max_right, ne_eq, not_true_eq_false, not_false_eq_true, Int.natCast_zero, gt_iff_lt, ge_iff_le, Int.reduceGT, Int.reduceGE, Bool.false_and, Bool.and_false, Bool.true_and, Bool.and_true, e3, h15, F1]
  have hu1 : u1 = ((u1.toNat : Nat) : Int) := by omega
  refine (config_l2 l hl r v2 v3 v4 hr zs cs u1.toNat _ ?_).mono ?_
  · refine ⟨[], j1, zv, cv, _, ⟨?_, ?_, ?_, ?_, ?_, ?_, by omega⟩, ⟨hz.keep ?_, hc.keep ?_⟩, SlB.nil, by omega, ?_, by simp; omega, by simp⟩ <;> simp -implicitDefEqProofs only [go_sem, ↓reduceIte, Nat.reduceEqDiff, Nat.reduceAdd, Nat.reduceSub, Nat.reduceMul, Nat.reduceLeDiff, Nat.reduceLT, Nat.reduceBEq, Nat.reduceBNe, reduceCtorEq, beq_self_eq_true, Int.toNat_natCast, List.length_map, List.length_nil, Int.reduceToNat, Int.reduceAdd, Int.reduceSub, Int.reduceMul, Int.reduceLT, Int.reduceLE, Int.reduceEq, Int.reduceBEq, Int.reduceNeg, decide_true, decide_false, Nat.le_max_left, Nat.le_max_right, ne_eq, not_true_eq_false, not_false_eq_true, Int.natCast_zero, gt_iff_lt, ge_iff_le, Int.reduceGT, Int.reduceGE, Bool.false_and, Bool.and_false, Bool.true_and, Bool.and_true, e2, e3, e4, h2, h4, h15]
    rw [← hu1]
  clear e2 e3 e4 h2 h4 h15 hz hc hi hi0 F1 c1 d1 hu1
  rintro e ⟨E, H⟩ ⟨rfl, ts, i, zv, cv, tv, ⟨e2, e3, e4, h2, h4, h15, hi0⟩, hzc, ht, hi, ht5, rgt⟩
  simp only at e2 e3 e4 h2 h4 h15 hzc ht
  obtain ⟨x1, j1, p1, q1, c1, d1, F1⟩ := Next_ex l i 3 hl (by omega) (by omega) (by omega)
  obtain ⟨x2, j2, p2, q2, c2, d2, F2⟩ := Next_ex l j1 3 hl (by omega) (by omega) (by omega)
  simp -implicitDefEqProofs only [go_sem, ↓reduceIte, Nat.reduceEqDiff, Nat.reduceAdd, Nat.reduceSub, Nat.reduceMul, Nat.reduceLeDiff, Nat.reduceLT, Nat.reduceBEq, Nat.reduceBNe, reduceCtorEq, beq_self_eq_true, Int.toNat_natCast, List.length_map, List.length_nil, Int.reduceToNat, Int.reduceAdd, Int.reduceSub, Int.reduceMul, Int.reduceLT, Int.reduceLE, Int.reduceEq, Int.reduceBEq, Int.reduceNeg, decide_true, decide_false, Nat.le_max_left, Nat.le_max_right, ne_eq, not_true_eq_false, not_false_eq_true, Int.natCast_zero, gt_iff_lt, ge_iff_le, Int.reduceGT, Int.reduceGE, Bool.false_and, Bool.and_false, Bool.true_and, Bool.and_true, e3, e4, h4, h15, F1, F2]
  have hu1 : x2 = ((x2.toNat : Nat) : Int) := by omega
  refine (config_l3 l hl r v2 v3 v4 zs cs ts x2.toNat _ ?_).mono ?_
  · refine ⟨[⟨0, x1⟩], j2, zv, cv, tv, .ms 126 ((hg H 126).ver + 1) 0 1 1, ⟨?_, ?_, ?_, ?_, ?_, ?_, by omega⟩, ⟨hzc.z.keep ?_, hzc.c.keep ?_, ht.keep ?_⟩, ⟨by simp, 126, (hg H 126).ver + 1, .inl rfl, ?_, ?_⟩, by omega, ?_, by simp; omega, ?_, by simp⟩ <;> (try simp -implicitDefEqProofs only [go_sem, ↓reduceIte, Nat.reduceEqDiff, Nat.reduceAdd, Nat.reduceSub, Nat.reduceMul, Nat.reduceLeDiff, Nat.reduceLT, Nat.reduceBEq, Nat.reduceBNe, reduceCtorEq, beq_self_eq_true, Int.toNat_natCast, List.length_map, List.length_nil, Int.reduceToNat, Int.reduceAdd, Int.reduceSub, Int.reduceMul, Int.reduceLT, Int.reduceLE, Int.reduceEq, Int.reduceBEq, Int.reduceNeg, decide_true, decide_false, Nat.le_max_left, Nat.le_max_right, ne_eq, not_true_eq_false, not_false_eq_true, Int.natCast_zero, gt_iff_lt, ge_iff_le, Int.reduceGT, Int.reduceGE, Bool.false_and, Bool.and_false, Bool.true_and, Bool.and_true, e2, e3, e4, h2, h4, h15])
    · rw [← hu1]
    · intro v hv
      simp at hv; subst hv
      constructor <;> simp only <;> omega
  clear e2 e3 e4 h2 h4 h15 hzc ht hi hi0 F1 F2 c1 d1 c2 d2 hu1
  rintro e ⟨E, H⟩ ⟨rfl, vs, i, zv, cv, tv, vv, ⟨e2, e3, e4, h2, h4, h15, hi0⟩, hzc, hv, hi, hv3, rgv, hvh⟩
  simp only at e2 e3 e4 h2 h4 h15 hzc hv
  obtain ⟨y1, j1, p1, q1, c1, d1, F1⟩ := Next_ex l i 2 hl (by omega) (by omega) (by omega)
  have w2 : IntKind.wrap .i64 (2 * y1) = 2 * y1 := w64 (by omega) (by omega)
  have w3 : IntKind.wrap .i64 (2 * y1 + 1) = 2 * y1 + 1 := w64 (by omega) (by omega)
  simp -implicitDefEqProofs only [go_sem, ↓reduceIte, Nat.reduceEqDiff, Nat.reduceAdd, Nat.reduceSub, Nat.reduceMul, Nat.reduceLeDiff, Nat.reduceLT, Nat.reduceBEq, Nat.reduceBNe, reduceCtorEq, beq_self_eq_true, Int.toNat_natCast, List.length_map, List.length_nil, Int.reduceToNat, Int.reduceAdd, Int.reduceSub, Int.reduceMul, Int.reduceLT, Int.reduceLE, Int.reduceEq, Int.reduceBEq, Int.reduceNeg, decide_true, decide_false, Nat.le_max_left, Nat.le_max_right, ne_eq, not_true_eq_false, not_false_eq_true, Int.natCast_zero, gt_iff_lt, ge_iff_le, Int.reduceGT, Int.reduceGE, Bool.false_and, Bool.and_false, Bool.true_and, Bool.and_true, e3, e4, h4, h15, F1, w2, w3]
  have hu1 : 2 * y1 + 1 = (((2 * y1 + 1).toNat : Nat) : Int) := by omega
  refine (config_l4 l hl r v2 v3 v4 zs (by omega) hz6 cs ts vs [] (2 * y1 + 1).toNat (by omega) (2 * y1 + 1).toNat _ ?_).mono ?_
  · refine ⟨[], j1, zv, cv, tv, vv, _, .bad, ⟨?_, ?_, ?_, ?_, ?_, ?_, by omega⟩, ⟨hzc.z.keep ?_, hzc.c.keep ?_, hzc.t.keep ?_, hv.keep ?_ ?_⟩, SlB.nil, by omega, ?_, by simp, by simp⟩ <;> simp -implicitDefEqProofs only [go_sem, ↓reduceIte, Nat.reduceEqDiff, Nat.reduceAdd, Nat.reduceSub, Nat.reduceMul, Nat.reduceLeDiff, Nat.reduceLT, Nat.reduceBEq, Nat.reduceBNe, reduceCtorEq, beq_self_eq_true, Int.toNat_natCast, List.length_map, List.length_nil, Int.reduceToNat, Int.reduceAdd, Int.reduceSub, Int.reduceMul, Int.reduceLT, Int.reduceLE, Int.reduceEq, Int.reduceBEq, Int.reduceNeg, decide_true, decide_false, Nat.le_max_left, Nat.le_max_right, ne_eq, not_true_eq_false, not_false_eq_true, Int.natCast_zero, gt_iff_lt, ge_iff_le, Int.reduceGT, Int.reduceGE, Bool.false_and, Bool.and_false, Bool.true_and, Bool.and_true, e2, e3, e4, h2, h4, h15]
    rw [← hu1]
  clear e2 e3 e4 h2 h4 h15 hzc hv hi hi0 F1 c1 d1 hu1
  rintro e ⟨E, H⟩ ⟨rfl, rs, i, zv, cv, tv, vv, rv, ov, ⟨e2, e3, e4, h2, h4, h15, hi0⟩, hzc, hrs, hi, hrl, rgr⟩
  simp only at e2 e3 e4 h2 h4 h15 hzc hrs
  obtain ⟨o1, j1, p3, q3, c1, d1, F1⟩ := Range_ex l i 1 4 hl (by omega) (by omega) (by omega) (by omega)
  simp -implicitDefEqProofs only [go_sem, ↓reduceIte, Nat.reduceEqDiff, Nat.reduceAdd, Nat.reduceSub, Nat.reduceMul, Nat.reduceLeDiff, Nat.reduceLT, Nat.reduceBEq, Nat.reduceBNe, reduceCtorEq, beq_self_eq_true, Int.toNat_natCast, List.length_map, List.length_nil, Int.reduceToNat, Int.reduceAdd, Int.reduceSub, Int.reduceMul, Int.reduceLT, Int.reduceLE, Int.reduceEq, Int.reduceBEq, Int.reduceNeg, decide_true, decide_false, Nat.le_max_left, Nat.le_max_right, ne_eq, not_true_eq_false, not_false_eq_true, Int.natCast_zero, gt_iff_lt, ge_iff_le, Int.reduceGT, Int.reduceGE, Bool.false_and, Bool.and_false, Bool.true_and, Bool.and_true, e3, e4, h4, h15, F1]
  have hu1 : o1 = ((o1.toNat : Nat) : Int) := by omega
  refine (config_l5 l hl r v2 v3 v4 zs (by omega) hz6 cs ts vs rs o1.toNat (by omega) o1.toNat _ ?_).mono ?_
  · refine ⟨[], j1, zv, cv, tv, vv, rv, _, ⟨?_, ?_, ?_, ?_, ?_, ?_, by omega⟩, ⟨hzc.z.keep ?_, hzc.c.keep ?_, hzc.t.keep ?_, hzc.v.keep ?_ ?_, hrs.keep ?_⟩, SlB.nil, by omega, ?_, by simp, by simp⟩ <;> simp -implicitDefEqProofs only [go_sem, ↓reduceIte, Nat.reduceEqDiff, Nat.reduceAdd, Nat.reduceSub, Nat.reduceMul, Nat.reduceLeDiff, Nat.reduceLT, Nat.reduceBEq, Nat.reduceBNe, reduceCtorEq, beq_self_eq_true, Int.toNat_natCast, List.length_map, List.length_nil, Int.reduceToNat, Int.reduceAdd, Int.reduceSub, Int.reduceMul, Int.reduceLT, Int.reduceLE, Int.reduceEq, Int.reduceBEq, Int.reduceNeg, decide_true, decide_false, Nat.le_max_left, Nat.le_max_right, ne_eq, not_true_eq_false, not_false_eq_true, Int.natCast_zero, gt_iff_lt, ge_iff_le, Int.reduceGT, Int.reduceGE, Bool.false_and, Bool.and_false, Bool.true_and, Bool.and_true, e2, e3, e4, h2, h4, h15]
    rw [← hu1]
  clear e2 e3 e4 h2 h4 h15 hzc hrs hi hi0 F1 c1 d1 hu1
  rintro e ⟨E, H⟩ ⟨rfl, os, i, zv, cv, tv, vv, rv, ov, ⟨e2, e3, e4, h2, h4, h15, hi0⟩, hzc, hos, hi, hol, rgo⟩
  simp only at e2 e3 e4 h2 h4 h15 hzc hos
  simp -implicitDefEqProofs only [go_sem, ↓reduceIte, Nat.reduceEqDiff, Nat.reduceAdd, Nat.reduceSub, Nat.reduceMul, Nat.reduceLeDiff, Nat.reduceLT, Nat.reduceBEq, Nat.reduceBNe, reduceCtorEq, beq_self_eq_true, Int.toNat_natCast, List.length_map, List.length_nil, Int.reduceToNat, Int.reduceAdd, Int.reduceSub, Int.reduceMul, Int.reduceLT, Int.reduceLE, Int.reduceEq, Int.reduceBEq, Int.reduceNeg, decide_true, decide_false, Nat.le_max_left, Nat.le_max_right, ne_eq, not_true_eq_false, not_false_eq_true, Int.natCast_zero, gt_iff_lt, ge_iff_le, Int.reduceGT, Int.reduceGE, Bool.false_and, Bool.and_false, Bool.true_and, Bool.and_true, e2, e4, h2, h4, h15, hzc.z.one, hzc.c.one, hzc.t.one, hzc.v.one, hzc.r.one, hos.one]
  refine ⟨⟨r, zs, cs, ts, vs, rs, os, v2, v3, v4⟩, ?_, ?_⟩
  · exact ⟨hr.1, hr.2, hzr, hz6, rgz, hc0, hc7, rgc, ht5, rgt, hzc.v.1, hv3, rgv, hvh, by simp only; omega, rgr, by simp only; omega, by simp only; omega, rgo, a2, b2, a3, b3, a4, by simp only; omega⟩
  · have K1 : ∀ x, frzD (hs H 2 x) 5 zv = some (.sl (zs.map eI)) := fun x => (hzc.z.keep (by simp -implicitDefEqProofs only [go_sem, ↓reduceIte, Nat.reduceEqDiff, Nat.reduceAdd, Nat.reduceSub, Nat.reduceMul, Nat.reduceLeDiff, Nat.reduceLT, Nat.reduceBEq, Nat.reduceBNe, reduceCtorEq, beq_self_eq_true, Int.toNat_natCast, List.length_map, List.length_nil, Int.reduceToNat, Int.reduceAdd, Int.reduceSub, Int.reduceMul, Int.reduceLT, Int.reduceLE, Int.reduceEq, Int.reduceBEq, Int.reduceNeg, decide_true, decide_false, Nat.le_max_left, Nat.le_max_right, ne_eq, not_true_eq_false, not_false_eq_true, Int.natCast_zero, gt_iff_lt, ge_iff_le, Int.reduceGT, Int.reduceGE, Bool.false_and, Bool.and_false, Bool.true_and, Bool.and_true, ])).frz (by decide) (closed_eI _) 4
    have K2 : ∀ x, frzD (hs H 2 x) 5 cv = some (.sl (cs.map eC)) := fun x => (hzc.c.keep (by simp -implicitDefEqProofs only [go_sem, ↓reduceIte, Nat.reduceEqDiff, Nat.reduceAdd, Nat.reduceSub, Nat.reduceMul, Nat.reduceLeDiff, Nat.reduceLT, Nat.reduceBEq, Nat.reduceBNe, reduceCtorEq, beq_self_eq_true, Int.toNat_natCast, List.length_map, List.length_nil, Int.reduceToNat, Int.reduceAdd, Int.reduceSub, Int.reduceMul, Int.reduceLT, Int.reduceLE, Int.reduceEq, Int.reduceBEq, Int.reduceNeg, decide_true, decide_false, Nat.le_max_left, Nat.le_max_right, ne_eq, not_true_eq_false, not_false_eq_true, Int.natCast_zero, gt_iff_lt, ge_iff_le, Int.reduceGT, Int.reduceGE, Bool.false_and, Bool.and_false, Bool.true_and, Bool.and_true, ])).frz (by decide) (closed_eC _) 4
    have K3 : ∀ x, frzD (hs H 2 x) 5 tv = some (.sl (ts.map eT)) := fun x => (hzc.t.keep (by simp -implicitDefEqProofs only [go_sem, ↓reduceIte, Nat.reduceEqDiff, Nat.reduceAdd, Nat.reduceSub, Nat.reduceMul, Nat.reduceLeDiff, Nat.reduceLT, Nat.reduceBEq, Nat.reduceBNe, reduceCtorEq, beq_self_eq_true, Int.toNat_natCast, List.length_map, List.length_nil, Int.reduceToNat, Int.reduceAdd, Int.reduceSub, Int.reduceMul, Int.reduceLT, Int.reduceLE, Int.reduceEq, Int.reduceBEq, Int.reduceNeg, decide_true, decide_false, Nat.le_max_left, Nat.le_max_right, ne_eq, not_true_eq_false, not_false_eq_true, Int.natCast_zero, gt_iff_lt, ge_iff_le, Int.reduceGT, Int.reduceGE, Bool.false_and, Bool.and_false, Bool.true_and, Bool.and_true, ])).frz (by decide) (closed_eT _) 4
    have K4 : ∀ x, frzD (hs H 2 x) 5 vv = some (.sl (vs.map eV)) := fun x => (hzc.v.keep (by simp -implicitDefEqProofs only [go_sem, ↓reduceIte, Nat.reduceEqDiff, Nat.reduceAdd, Nat.reduceSub, Nat.reduceMul, Nat.reduceLeDiff, Nat.reduceLT, Nat.reduceBEq, Nat.reduceBNe, reduceCtorEq, beq_self_eq_true, Int.toNat_natCast, List.length_map, List.length_nil, Int.reduceToNat, Int.reduceAdd, Int.reduceSub, Int.reduceMul, Int.reduceLT, Int.reduceLE, Int.reduceEq, Int.reduceBEq, Int.reduceNeg, decide_true, decide_false, Nat.le_max_left, Nat.le_max_right, ne_eq, not_true_eq_false, not_false_eq_true, Int.natCast_zero, gt_iff_lt, ge_iff_le, Int.reduceGT, Int.reduceGE, Bool.false_and, Bool.and_false, Bool.true_and, Bool.and_true, ]) (by simp -implicitDefEqProofs only [go_sem, ↓reduceIte, Nat.reduceEqDiff, Nat.reduceAdd, Nat.reduceSub, Nat.reduceMul, Nat.reduceLeDiff, Nat.reduceLT, Nat.reduceBEq, Nat.reduceBNe, reduceCtorEq, beq_self_eq_true, Int.toNat_natCast, List.length_map, List.length_nil, Int.reduceToNat, Int.reduceAdd, Int.reduceSub, Int.reduceMul, Int.reduceLT, Int.reduceLE, Int.reduceEq, Int.reduceBEq, Int.reduceNeg, decide_true, decide_false, Nat.le_max_left, Nat.le_max_right, ne_eq, not_true_eq_false, not_false_eq_true, Int.natCast_zero, gt_iff_lt, ge_iff_le, Int.reduceGT, Int.reduceGE, Bool.false_and, Bool.and_false, Bool.true_and, Bool.and_true, ])).frz 4
    have K5 : ∀ x, frzD (hs H 2 x) 5 rv = some (.sl (rs.map eI)) := fun x => (hzc.r.keep (by simp -implicitDefEqProofs only [go_sem, ↓reduceIte, Nat.reduceEqDiff, Nat.reduceAdd, Nat.reduceSub, Nat.reduceMul, Nat.reduceLeDiff, Nat.reduceLT, Nat.reduceBEq, Nat.reduceBNe, reduceCtorEq, beq_self_eq_true, Int.toNat_natCast, List.length_map, List.length_nil, Int.reduceToNat, Int.reduceAdd, Int.reduceSub, Int.reduceMul, Int.reduceLT, Int.reduceLE, Int.reduceEq, Int.reduceBEq, Int.reduceNeg, decide_true, decide_false, Nat.le_max_left, Nat.le_max_right, ne_eq, not_true_eq_false, not_false_eq_true, Int.natCast_zero, gt_iff_lt, ge_iff_le, Int.reduceGT, Int.reduceGE, Bool.false_and, Bool.and_false, Bool.true_and, Bool.and_true, ])).frz (by decide) (closed_eI _) 4
    have K6 : ∀ x, frzD (hs H 2 x) 5 ov = some (.sl (os.map eI)) := fun x => (hos.keep (by simp -implicitDefEqProofs only [go_sem, ↓reduceIte, Nat.reduceEqDiff, Nat.reduceAdd, Nat.reduceSub, Nat.reduceMul, Nat.reduceLeDiff, Nat.reduceLT, Nat.reduceBEq, Nat.reduceBNe, reduceCtorEq, beq_self_eq_true, Int.toNat_natCast, List.length_map, List.length_nil, Int.reduceToNat, Int.reduceAdd, Int.reduceSub, Int.reduceMul, Int.reduceLT, Int.reduceLE, Int.reduceEq, Int.reduceBEq, Int.reduceNeg, decide_true, decide_false, Nat.le_max_left, Nat.le_max_right, ne_eq, not_true_eq_false, not_false_eq_true, Int.natCast_zero, gt_iff_lt, ge_iff_le, Int.reduceGT, Int.reduceGE, Bool.false_and, Bool.and_false, Bool.true_and, Bool.and_true, ])).frz (by decide) (closed_eI _) 4
    simp -implicitDefEqProofs only [go_sem, ↓reduceIte, Nat.reduceEqDiff, Nat.reduceAdd, Nat.reduceSub, Nat.reduceMul, Nat.reduceLeDiff, Nat.reduceLT, Nat.reduceBEq, Nat.reduceBNe, reduceCtorEq, beq_self_eq_true, Int.toNat_natCast, List.length_map, List.length_nil, Int.reduceToNat, Int.reduceAdd, Int.reduceSub, Int.reduceMul, Int.reduceLT, Int.reduceLE, Int.reduceEq, Int.reduceBEq, Int.reduceNeg, decide_true, decide_false, Nat.le_max_left, Nat.le_max_right, ne_eq, not_true_eq_false, not_false_eq_true, Int.natCast_zero, gt_iff_lt, ge_iff_le, Int.reduceGT, Int.reduceGE, Bool.false_and, Bool.and_false, Bool.true_and, Bool.and_true, K1, K2, K3, K4, K5, K6]
/-- Element i of a set. -/
def bit (s i : Int) : Bool := decide ((s / 2 ^ i.toNat) % 2 = 1)
theorem and1 (a : Int) : andI .i64 a 1 = a % 2 := by
  have h : ((BitVec.ofInt 64 a &&& BitVec.ofInt 64 1).toNat : Int) = a % 2 := by
    have h1 : (BitVec.ofInt 64 1 : BitVec 64) = 1#64 := by decide
    rw [h1, BitVec.toNat_and]
    have h2 : (1#64).toNat = 1 := by decide
    rw [h2, Nat.and_one_is_mod, BitVec.toNat_ofInt]
    have h3 : 0 ≤ a % (2 ^ 64 : Nat) := Int.emod_nonneg _ (by decide)
    omega
  show IntKind.wrap .i64 (((BitVec.ofInt 64 a &&& BitVec.ofInt 64 1).toNat : Nat) : Int) = a % 2
  rw [h, w64 (by omega) (by omega)]
theorem shr_div (s i : Int) (h0 : 0 ≤ i) (h1 : i ≤ 64) : s.fdiv (2 ^ (min i.toNat 64)) = s / 2 ^ i.toNat := by
  rw [show min i.toNat 64 = i.toNat by omega]
  rw [Int.fdiv_eq_ediv_of_nonneg _ (by exact Int.pow_nonneg (by decide))]
def regZ (c : Conf) (z : Int) : Int := if 0 ≤ z ∧ z < c.zones.length then c.zones.getD z.toNat 0 else -1
def zoneOf (c : Conf) (i : Int) : Int := if 0 ≤ i ∧ i < c.cells.length then (c.cells.getD i.toNat ⟨0, 0⟩).zone else -1
def regOf (c : Conf) (i : Int) : Int := regZ c (zoneOf c i)
/-- Lists are not too long for the machine. -/
structure Lens (k : Conf) : Prop where
  z : k.zones.length ≤ 1000
  c : k.cells.length ≤ 1000
  t : k.tens.length ≤ 1000
  v : k.vers.length ≤ 1000
  p : k.reps.length ≤ 1000
  o : k.obs.length ≤ 1000
theorem getD_at {α : Type} {l : List α} {i : Nat} {d : α} (h : i < l.length) : l[i]? = some (l.getD i d) := by
  rw [List.getElem?_eq_getElem h, List.getD_eq_getElem?_getD, List.getElem?_eq_getElem h]; rfl

theorem FV_tbetween (n lo hi : Int) : FV PP shF 66 [dI n, dI lo, dI hi] = some (dB (decide (lo ≤ n) && decide (n ≤ hi))) := by
  refine FV_B (H := []) ?_
  rw [F_fun PP66 rfl ⟨by simp [ir66], by simp⟩]
  by_cases h : lo ≤ n
  · simp -implicitDefEqProofs only [go_sem, ↓reduceIte, Nat.reduceEqDiff, Nat.reduceAdd, Nat.reduceSub, Nat.reduceMul, Nat.reduceLeDiff, Nat.reduceLT, Nat.reduceBEq, Nat.reduceBNe, reduceCtorEq, beq_self_eq_true, Int.toNat_natCast, List.length_map, List.length_nil, Int.reduceToNat, Int.reduceAdd, Int.reduceSub, Int.reduceMul, Int.reduceLT, Int.reduceLE, Int.reduceEq, Int.reduceBEq, Int.reduceNeg, decide_true, decide_false, Nat.le_max_left, Nat.le_max_right, ne_eq, not_true_eq_false, not_false_eq_true, Int.natCast_zero, gt_iff_lt, ge_iff_le, Int.reduceGT, Int.reduceGE, Bool.false_and, Bool.and_false, Bool.true_and, Bool.and_true, ir66, h]
  · simp -implicitDefEqProofs only [go_sem, ↓reduceIte, Nat.reduceEqDiff, Nat.reduceAdd, Nat.reduceSub, Nat.reduceMul, Nat.reduceLeDiff, Nat.reduceLT, Nat.reduceBEq, Nat.reduceBNe, reduceCtorEq, beq_self_eq_true, Int.toNat_natCast, List.length_map, List.length_nil, Int.reduceToNat, Int.reduceAdd, Int.reduceSub, Int.reduceMul, Int.reduceLT, Int.reduceLE, Int.reduceEq, Int.reduceBEq, Int.reduceNeg, decide_true, decide_false, Nat.le_max_left, Nat.le_max_right, ne_eq, not_true_eq_false, not_false_eq_true, Int.natCast_zero, gt_iff_lt, ge_iff_le, Int.reduceGT, Int.reduceGE, Bool.false_and, Bool.and_false, Bool.true_and, Bool.and_true, ir66, h]
theorem FV_region (c : Conf) (hc : Lens c) (z : Int) : FV PP shF 73 [.agg (eK c), dI z] = some (dI (regZ c z)) := by
  refine FV_ok (F_ok PP73 rfl ⟨by simp [ir73], by simp⟩ ?_)
  have hl := hc.z
  have w : IntKind.wrap .i64 ((c.zones.length : Int) - 1) = (c.zones.length : Int) - 1 := w64 (by omega) (by omega)
  have B := FV_tbetween z 0 ((c.zones.length : Int) - 1)
  unfold regZ
  by_cases h : 0 ≤ z ∧ z < c.zones.length
  · have e1 : (decide (0 ≤ z) && decide (z ≤ (c.zones.length : Int) - 1)) = true := by simp; omega
    rw [e1] at B
    have hg := getD_at (l := c.zones) (i := z.toNat) (d := 0) (by omega)
    simp -implicitDefEqProofs only [go_sem, ↓reduceIte, Nat.reduceEqDiff, Nat.reduceAdd, Nat.reduceSub, Nat.reduceMul, Nat.reduceLeDiff, Nat.reduceLT, Nat.reduceBEq, Nat.reduceBNe, reduceCtorEq, beq_self_eq_true, Int.toNat_natCast, List.length_map, List.length_nil, Int.reduceToNat, Int.reduceAdd, Int.reduceSub, Int.reduceMul, Int.reduceLT, Int.reduceLE, Int.reduceEq, Int.reduceBEq, Int.reduceNeg, decide_true, decide_false, Nat.le_max_left, Nat.le_max_right, ne_eq, not_true_eq_false, not_false_eq_true, Int.natCast_zero, gt_iff_lt, ge_iff_le, Int.reduceGT, Int.reduceGE, Bool.false_and, Bool.and_false, Bool.true_and, Bool.and_true, ir73, eK, w, vpS B rfl, h, hg]
  · have e1 : (decide (0 ≤ z) && decide (z ≤ (c.zones.length : Int) - 1)) = false := by simp; omega
    rw [e1] at B
    simp -implicitDefEqProofs only [go_sem, ↓reduceIte, Nat.reduceEqDiff, Nat.reduceAdd, Nat.reduceSub, Nat.reduceMul, Nat.reduceLeDiff, Nat.reduceLT, Nat.reduceBEq, Nat.reduceBNe, reduceCtorEq, beq_self_eq_true, Int.toNat_natCast, List.length_map, List.length_nil, Int.reduceToNat, Int.reduceAdd, Int.reduceSub, Int.reduceMul, Int.reduceLT, Int.reduceLE, Int.reduceEq, Int.reduceBEq, Int.reduceNeg, decide_true, decide_false, Nat.le_max_left, Nat.le_max_right, ne_eq, not_true_eq_false, not_false_eq_true, Int.natCast_zero, gt_iff_lt, ge_iff_le, Int.reduceGT, Int.reduceGE, Bool.false_and, Bool.and_false, Bool.true_and, Bool.and_true, ir73, eK, w, vpS B rfl, h]
theorem FV_ZoneOf (c : Conf) (hc : Lens c) (z : Int) : FV PP shF 39 [.agg (eK c), dI z] = some (dI (zoneOf c z)) := by
  refine FV_ok (F_ok PP39 rfl ⟨by simp [ir39], by simp⟩ ?_)
  have hl := hc.c
  have w : IntKind.wrap .i64 ((c.cells.length : Int) - 1) = (c.cells.length : Int) - 1 := w64 (by omega) (by omega)
  have B := FV_tbetween z 0 ((c.cells.length : Int) - 1)
  unfold zoneOf
  by_cases h : 0 ≤ z ∧ z < c.cells.length
  · have e1 : (decide (0 ≤ z) && decide (z ≤ (c.cells.length : Int) - 1)) = true := by simp; omega
    rw [e1] at B
    have hg := getD_at (l := c.cells) (i := z.toNat) (d := ⟨0, 0⟩) (by omega)
    simp -implicitDefEqProofs only [go_sem, ↓reduceIte, Nat.reduceEqDiff, Nat.reduceAdd, Nat.reduceSub, Nat.reduceMul, Nat.reduceLeDiff, Nat.reduceLT, Nat.reduceBEq, Nat.reduceBNe, reduceCtorEq, beq_self_eq_true, Int.toNat_natCast, List.length_map, List.length_nil, Int.reduceToNat, Int.reduceAdd, Int.reduceSub, Int.reduceMul, Int.reduceLT, Int.reduceLE, Int.reduceEq, Int.reduceBEq, Int.reduceNeg, decide_true, decide_false, Nat.le_max_left, Nat.le_max_right, ne_eq, not_true_eq_false, not_false_eq_true, Int.natCast_zero, gt_iff_lt, ge_iff_le, Int.reduceGT, Int.reduceGE, Bool.false_and, Bool.and_false, Bool.true_and, Bool.and_true, ir39, eK, w, vpS B rfl, h, hg]
  · have e1 : (decide (0 ≤ z) && decide (z ≤ (c.cells.length : Int) - 1)) = false := by simp; omega
    rw [e1] at B
    simp -implicitDefEqProofs only [go_sem, ↓reduceIte, Nat.reduceEqDiff, Nat.reduceAdd, Nat.reduceSub, Nat.reduceMul, Nat.reduceLeDiff, Nat.reduceLT, Nat.reduceBEq, Nat.reduceBNe, reduceCtorEq, beq_self_eq_true, Int.toNat_natCast, List.length_map, List.length_nil, Int.reduceToNat, Int.reduceAdd, Int.reduceSub, Int.reduceMul, Int.reduceLT, Int.reduceLE, Int.reduceEq, Int.reduceBEq, Int.reduceNeg, decide_true, decide_false, Nat.le_max_left, Nat.le_max_right, ne_eq, not_true_eq_false, not_false_eq_true, Int.natCast_zero, gt_iff_lt, ge_iff_le, Int.reduceGT, Int.reduceGE, Bool.false_and, Bool.and_false, Bool.true_and, Bool.and_true, ir39, eK, w, vpS B rfl, h]
theorem FV_RegionOf (c : Conf) (hc : Lens c) (z : Int) : FV PP shF 37 [.agg (eK c), dI z] = some (dI (regOf c z)) := by
  refine FV_ok (F_ok PP37 rfl ⟨by simp [ir37], by simp⟩ ?_)
  simp -implicitDefEqProofs only [go_sem, ↓reduceIte, Nat.reduceEqDiff, Nat.reduceAdd, Nat.reduceSub, Nat.reduceMul, Nat.reduceLeDiff, Nat.reduceLT, Nat.reduceBEq, Nat.reduceBNe, reduceCtorEq, beq_self_eq_true, Int.toNat_natCast, List.length_map, List.length_nil, Int.reduceToNat, Int.reduceAdd, Int.reduceSub, Int.reduceMul, Int.reduceLT, Int.reduceLE, Int.reduceEq, Int.reduceBEq, Int.reduceNeg, decide_true, decide_false, Nat.le_max_left, Nat.le_max_right, ne_eq, not_true_eq_false, not_false_eq_true, Int.natCast_zero, gt_iff_lt, ge_iff_le, Int.reduceGT, Int.reduceGE, Bool.false_and, Bool.and_false, Bool.true_and, Bool.and_true, ir37, eK, vpS (FV_ZoneOf c hc z) rfl, vpS (FV_region c hc (zoneOf c z)) rfl]
  rfl
/-- The numbers below n for which p holds. -/
def sel (n : Nat) (p : Int → Bool) : List Int := ((List.range n).filter fun i : Nat => p (i : Int)).map fun i : Nat => (i : Int)
theorem sel_succ (n : Nat) (p : Int → Bool) : sel (n + 1) p = sel n p ++ (if p n = true then [(n : Int)] else []) := by
  unfold sel
  rw [List.range_succ, List.filter_append, List.map_append]
  congr 1
  by_cases h : p n = true <;> simp [h]
theorem sel_len (n : Nat) (p : Int → Bool) : (sel n p).length ≤ n := by
  unfold sel
  rw [List.length_map]
  exact Nat.le_trans (List.length_filter_le _ _) (by simp)
theorem mem_sel {n : Nat} {p : Int → Bool} {x : Int} : x ∈ sel n p ↔ 0 ≤ x ∧ x < n ∧ p x = true := by
  unfold sel
  simp only [List.mem_map, List.mem_filter, List.mem_range]
  constructor
  · rintro ⟨i, ⟨h1, h2⟩, rfl⟩; exact ⟨by omega, by omega, h2⟩
  · rintro ⟨h1, h2, h3⟩
    refine ⟨x.toNat, ⟨by omega, ?_⟩, by omega⟩
    rw [show ((x.toNat : Nat) : Int) = x by omega]; exact h3
theorem ConfOk.lens {c : Conf} (h : ConfOk c) : Lens c := by
  have h1 := h.z1
  have h2 := h.c1
  have h3 := h.t1
  have h4 := h.v1
  have h5 := h.ps
  have h6 := h.o1
  constructor <;> omega
/-- Whether a set has an element. -/
def has (s i : Int) : Bool := decide (0 ≤ i) && decide (i < 62) && bit s i
/-- Zones of cells exist. -/
theorem ConfOk.zoneOf {c : Conf} (h : ConfOk c) {i : Int} (h0 : 0 ≤ i) (h1 : i < c.cells.length) : 0 ≤ Cp.zoneOf c i ∧ Cp.zoneOf c i < c.zones.length := by
  unfold Cp.zoneOf
  rw [if_pos ⟨h0, h1⟩]
  have hg := getD_at (l := c.cells) (i := i.toNat) (d := ⟨0, 0⟩) (by omega)
  have := h.cs _ (List.mem_of_getElem? hg)
  omega
theorem ConfOk.regZ {c : Conf} (h : ConfOk c) {z : Int} (h0 : 0 ≤ z) (h1 : z < c.zones.length) : 0 ≤ Cp.regZ c z ∧ Cp.regZ c z < c.regions := by
  unfold Cp.regZ
  rw [if_pos ⟨h0, h1⟩]
  have hg := getD_at (l := c.zones) (i := z.toNat) (d := 0) (by omega)
  exact h.zs _ (List.mem_of_getElem? hg)
theorem ConfOk.regOf {c : Conf} (h : ConfOk c) {i : Int} (h0 : 0 ≤ i) (h1 : i < c.cells.length) : 0 ≤ Cp.regOf c i ∧ Cp.regOf c i < c.regions := by
  have := h.zoneOf h0 h1
  exact h.regZ this.1 this.2
theorem zoneOf_out {c : Conf} {i : Int} (h : ¬ (0 ≤ i ∧ i < c.cells.length)) : zoneOf c i = -1 := by unfold zoneOf; rw [if_neg h]
theorem regOf_out {c : Conf} {i : Int} (h : ¬ (0 ≤ i ∧ i < c.cells.length)) : regOf c i = -1 := by unfold regOf; rw [zoneOf_out h]; unfold regZ; rw [if_neg (by omega)]
/-- Whether a cell lies in an allowed region of a tenant. -/
def mayB (c : Conf) (t i : Int) : Bool := decide (0 ≤ t) && decide (t < c.tens.length) && has (c.tens.getD t.toNat ⟨0, 0, 0, 0, 0, 0, false⟩).allowed (regOf c i)
def apartB (c : Conf) (a b : Int) : Bool := decide (0 ≤ regOf c a) && decide (0 ≤ regOf c b) && (regOf c a != regOf c b)
def P52 (c : Conf) (t : Int) (i : Int) : Bool := mayB c t i
def P53 (c : Conf) (t : Int) (h : Int) (i : Int) : Bool := mayB c t i && apartB c h i
def ten (c : Conf) (t : Int) : Ten := c.tens.getD t.toNat ⟨0, 0, 0, 0, 0, 0, false⟩
theorem FV_between (n lo hi : Int) : FV PP shF 77 [dI n, dI lo, dI hi] = some (dB (decide (lo ≤ n) && decide (n ≤ hi))) := by
  refine FV_ok (F_ok PP77 rfl ⟨by simp [ir77], by simp⟩ ?_)
  by_cases h : lo ≤ n
  · simp -implicitDefEqProofs only [go_sem, ↓reduceIte, Nat.reduceEqDiff, Nat.reduceAdd, Nat.reduceSub, Nat.reduceMul, Nat.reduceLeDiff, Nat.reduceLT, Nat.reduceBEq, Nat.reduceBNe, reduceCtorEq, beq_self_eq_true, Int.toNat_natCast, List.length_map, List.length_nil, Int.reduceToNat, Int.reduceAdd, Int.reduceSub, Int.reduceMul, Int.reduceLT, Int.reduceLE, Int.reduceEq, Int.reduceBEq, Int.reduceNeg, decide_true, decide_false, Nat.le_max_left, Nat.le_max_right, ne_eq, not_true_eq_false, not_false_eq_true, Int.natCast_zero, gt_iff_lt, ge_iff_le, Int.reduceGT, Int.reduceGE, Bool.false_and, Bool.and_false, Bool.true_and, Bool.and_true, ir77, h]
  · simp -implicitDefEqProofs only [go_sem, ↓reduceIte, Nat.reduceEqDiff, Nat.reduceAdd, Nat.reduceSub, Nat.reduceMul, Nat.reduceLeDiff, Nat.reduceLT, Nat.reduceBEq, Nat.reduceBNe, reduceCtorEq, beq_self_eq_true, Int.toNat_natCast, List.length_map, List.length_nil, Int.reduceToNat, Int.reduceAdd, Int.reduceSub, Int.reduceMul, Int.reduceLT, Int.reduceLE, Int.reduceEq, Int.reduceBEq, Int.reduceNeg, decide_true, decide_false, Nat.le_max_left, Nat.le_max_right, ne_eq, not_true_eq_false, not_false_eq_true, Int.natCast_zero, gt_iff_lt, ge_iff_le, Int.reduceGT, Int.reduceGE, Bool.false_and, Bool.and_false, Bool.true_and, Bool.and_true, ir77, h]
theorem FV_May (c : Conf) (hc : ConfOk c) (t i : Int) (h0 : 0 ≤ i) (h1 : i < c.cells.length) : FV PP shF 55 [.agg (eK c), dI t, dI i] = some (dB (mayB c t i)) := by
  refine FV_ok (F_ok PP55 rfl ⟨by simp [ir55], by simp⟩ ?_)
  have hr := hc.regOf h0 h1
  have hr1 := hc.r1
  have hl := hc.t1
  have w : IntKind.wrap .i64 ((c.tens.length : Int) - 1) = (c.tens.length : Int) - 1 := w64 (by omega) (by omega)
  have B := FV_between t 0 ((c.tens.length : Int) - 1)
  have B2 := FV_between (Cp.regOf c i) 0 3
  rw [show (decide (0 ≤ Cp.regOf c i) && decide (Cp.regOf c i ≤ 3)) = true by simp; omega] at B2
  have hs := shr_div (ten c t).allowed (Cp.regOf c i) hr.1 (by omega)
  unfold mayB has
  have g4 : Cp.regOf c i < 62 := by omega
  have nr : ¬ Cp.regOf c i < 0 := by omega
  by_cases h : 0 ≤ t ∧ t < c.tens.length
  · rw [show (decide (0 ≤ t) && decide (t ≤ (c.tens.length : Int) - 1)) = true by simp; omega] at B
    have hg := getD_at (l := c.tens) (i := t.toNat) (d := ⟨0, 0, 0, 0, 0, 0, false⟩) (by omega)
    simp -implicitDefEqProofs only [go_sem, ↓reduceIte, Nat.reduceEqDiff, Nat.reduceAdd, Nat.reduceSub, Nat.reduceMul, Nat.reduceLeDiff, Nat.reduceLT, Nat.reduceBEq, Nat.reduceBNe, reduceCtorEq, beq_self_eq_true, Int.toNat_natCast, List.length_map, List.length_nil, Int.reduceToNat, Int.reduceAdd, Int.reduceSub, Int.reduceMul, Int.reduceLT, Int.reduceLE, Int.reduceEq, Int.reduceBEq, Int.reduceNeg, decide_true, decide_false, Nat.le_max_left, Nat.le_max_right, ne_eq, not_true_eq_false, not_false_eq_true, Int.natCast_zero, gt_iff_lt, ge_iff_le, Int.reduceGT, Int.reduceGE, Bool.false_and, Bool.and_false, Bool.true_and, Bool.and_true, ir55, eK, w, vpS (FV_RegionOf c hc.lens i) rfl, vpS B rfl, vpS B2 rfl, h, hg, nr, ten] at hs ⊢
    simp -implicitDefEqProofs only [go_sem, ↓reduceIte, Nat.reduceEqDiff, Nat.reduceAdd, Nat.reduceSub, Nat.reduceMul, Nat.reduceLeDiff, Nat.reduceLT, Nat.reduceBEq, Nat.reduceBNe, reduceCtorEq, beq_self_eq_true, Int.toNat_natCast, List.length_map, List.length_nil, Int.reduceToNat, Int.reduceAdd, Int.reduceSub, Int.reduceMul, Int.reduceLT, Int.reduceLE, Int.reduceEq, Int.reduceBEq, Int.reduceNeg, decide_true, decide_false, Nat.le_max_left, Nat.le_max_right, ne_eq, not_true_eq_false, not_false_eq_true, Int.natCast_zero, gt_iff_lt, ge_iff_le, Int.reduceGT, Int.reduceGE, Bool.false_and, Bool.and_false, Bool.true_and, Bool.and_true, hs, and1, hr, g4, bit]
    rfl
  · rw [show (decide (0 ≤ t) && decide (t ≤ (c.tens.length : Int) - 1)) = false by simp; omega] at B
    have : (decide (0 ≤ t) && decide (t < (c.tens.length : Int))) = false := by simp; omega
    simp -implicitDefEqProofs only [go_sem, ↓reduceIte, Nat.reduceEqDiff, Nat.reduceAdd, Nat.reduceSub, Nat.reduceMul, Nat.reduceLeDiff, Nat.reduceLT, Nat.reduceBEq, Nat.reduceBNe, reduceCtorEq, beq_self_eq_true, Int.toNat_natCast, List.length_map, List.length_nil, Int.reduceToNat, Int.reduceAdd, Int.reduceSub, Int.reduceMul, Int.reduceLT, Int.reduceLE, Int.reduceEq, Int.reduceBEq, Int.reduceNeg, decide_true, decide_false, Nat.le_max_left, Nat.le_max_right, ne_eq, not_true_eq_false, not_false_eq_true, Int.natCast_zero, gt_iff_lt, ge_iff_le, Int.reduceGT, Int.reduceGE, Bool.false_and, Bool.and_false, Bool.true_and, Bool.and_true, ir55, eK, w, vpS (FV_RegionOf c hc.lens i) rfl, vpS B rfl, this]
def L143 (c : Conf) (t : Int) (k : Nat) (w : VSt) : Prop := ∃ ov : DV, gt .bad w.E 2 = .mp 2 1 0 0 ∧ hg w.H 2 = ⟨1, 0, true, [eK c]⟩ ∧ gt .bad w.E 1 = dI t ∧ gt .bad w.E 9 = dI (c.cells.length : Nat) ∧ gt .bad w.E 10 = dI (k : Nat) ∧ gt .bad w.E 5 = ov ∧ SlB w.H 20 1 ((sel k (P52 c t)).map eI) ov ∧ k ≤ c.cells.length
theorem loop143 (c : Conf) (t : Int) (hc : ConfOk c) : ∀ k w, L143 c t k w → Ok (R PP shF 0 23 (.loop ir143_l0) w) (fun e w => e = .exit 0 ∧ ∃ ov : DV, gt .bad w.E 5 = ov ∧ SlB w.H 20 1 ((sel c.cells.length (P52 c t)).map eI) ov) := by
  refine Ok_up c.cells.length (L143 c t) fun k w hI => ?_
  obtain ⟨E, H⟩ := w
  obtain ⟨ov, e2, h2, x1, e9, e10, e5, ho, hk⟩ := hI
  simp only at e2 h2 x1 e9 e10 e5 ho
  have hn := hc.lens.c
  have w1 : IntKind.wrap .i64 ((k : Int) + 1) = ((k + 1 : Nat) : Int) := by rw [w64 (by omega) (by omega)]; rfl
  by_cases hlt : k < c.cells.length
  · have d1 : decide ((k : Int) < (c.cells.length : Int)) = true := by simp; omega
    have B1 := FV_May c hc t k (by omega) (by omega)
    have hsl := sel_len k (P52 c t)
    have c1 : ¬ (sel k (P52 c t)).length + 1 ≤ (sel k (P52 c t)).length := by omega
    have c2 : ((sel k (P52 c t)).length + 1) * 8 ≤ 140737488355328 ∧ (sel k (P52 c t)).length ≤ 9223372036854775806 := by omega
    have ht : List.take (sel k (P52 c t)).length ((sel k (P52 c t)).map eI) = (sel k (P52 c t)).map eI := List.take_of_length_le (by simp)
    cases hp : P52 c t k with
    | true =>
      have hs : sel (k + 1) (P52 c t) = sel k (P52 c t) ++ [(k : Int)] := by rw [sel_succ, if_pos hp]
      have hq : mayB c t k = true := hp
      rw [hq] at B1
      rcases ho with ⟨hz, rfl⟩ | ⟨hz, ver, rfl, hb⟩
      · simp -implicitDefEqProofs only [go_sem, ↓reduceIte, Nat.reduceEqDiff, Nat.reduceAdd, Nat.reduceSub, Nat.reduceMul, Nat.reduceLeDiff, Nat.reduceLT, Nat.reduceBEq, Nat.reduceBNe, reduceCtorEq, beq_self_eq_true, Int.toNat_natCast, List.length_map, List.length_nil, Int.reduceToNat, Int.reduceAdd, Int.reduceSub, Int.reduceMul, Int.reduceLT, Int.reduceLE, Int.reduceEq, Int.reduceBEq, Int.reduceNeg, decide_true, decide_false, Nat.le_max_left, Nat.le_max_right, ne_eq, not_true_eq_false, not_false_eq_true, Int.natCast_zero, gt_iff_lt, ge_iff_le, Int.reduceGT, Int.reduceGE, Bool.false_and, Bool.and_false, Bool.true_and, Bool.and_true, ir143_l0, eK, e2, h2, x1, e9, e10, e5, d1, w1, vpS B1 rfl]
        refine .next hlt ⟨.ms 20 ((hg H 20).ver + 1) 0 1 1, ?_, ?_, ?_, ?_, ?_, ?_, SlB.mk ?_ ?_ ?_, by omega⟩ <;> simp -implicitDefEqProofs only [go_sem, ↓reduceIte, Nat.reduceEqDiff, Nat.reduceAdd, Nat.reduceSub, Nat.reduceMul, Nat.reduceLeDiff, Nat.reduceLT, Nat.reduceBEq, Nat.reduceBNe, reduceCtorEq, beq_self_eq_true, Int.toNat_natCast, List.length_map, List.length_nil, Int.reduceToNat, Int.reduceAdd, Int.reduceSub, Int.reduceMul, Int.reduceLT, Int.reduceLE, Int.reduceEq, Int.reduceBEq, Int.reduceNeg, decide_true, decide_false, Nat.le_max_left, Nat.le_max_right, ne_eq, not_true_eq_false, not_false_eq_true, Int.natCast_zero, gt_iff_lt, ge_iff_le, Int.reduceGT, Int.reduceGE, Bool.false_and, Bool.and_false, Bool.true_and, Bool.and_true, eK, e2, h2, x1, e9, w1, hs, List.map_append, hz]
      · simp -implicitDefEqProofs only [go_sem, ↓reduceIte, Nat.reduceEqDiff, Nat.reduceAdd, Nat.reduceSub, Nat.reduceMul, Nat.reduceLeDiff, Nat.reduceLT, Nat.reduceBEq, Nat.reduceBNe, reduceCtorEq, beq_self_eq_true, Int.toNat_natCast, List.length_map, List.length_nil, Int.reduceToNat, Int.reduceAdd, Int.reduceSub, Int.reduceMul, Int.reduceLT, Int.reduceLE, Int.reduceEq, Int.reduceBEq, Int.reduceNeg, decide_true, decide_false, Nat.le_max_left, Nat.le_max_right, ne_eq, not_true_eq_false, not_false_eq_true, Int.natCast_zero, gt_iff_lt, ge_iff_le, Int.reduceGT, Int.reduceGE, Bool.false_and, Bool.and_false, Bool.true_and, Bool.and_true, ir143_l0, eK, e2, h2, x1, e9, e10, e5, d1, w1, hb, c1, c2, ht, vpS B1 rfl]
        refine .next hlt ⟨.ms 20 (ver + 1 + 1) 0 ((sel k (P52 c t)).length + 1) ((sel k (P52 c t)).length + 1), ?_, ?_, ?_, ?_, ?_, ?_, SlB.mk ?_ ?_ ?_, by omega⟩ <;> simp -implicitDefEqProofs only [go_sem, ↓reduceIte, Nat.reduceEqDiff, Nat.reduceAdd, Nat.reduceSub, Nat.reduceMul, Nat.reduceLeDiff, Nat.reduceLT, Nat.reduceBEq, Nat.reduceBNe, reduceCtorEq, beq_self_eq_true, Int.toNat_natCast, List.length_map, List.length_nil, Int.reduceToNat, Int.reduceAdd, Int.reduceSub, Int.reduceMul, Int.reduceLT, Int.reduceLE, Int.reduceEq, Int.reduceBEq, Int.reduceNeg, decide_true, decide_false, Nat.le_max_left, Nat.le_max_right, ne_eq, not_true_eq_false, not_false_eq_true, Int.natCast_zero, gt_iff_lt, ge_iff_le, Int.reduceGT, Int.reduceGE, Bool.false_and, Bool.and_false, Bool.true_and, Bool.and_true, eK, e2, h2, x1, e9, w1, hs, List.map_append, List.length_append]
    | false =>
      have hs : sel (k + 1) (P52 c t) = sel k (P52 c t) := by rw [sel_succ, if_neg (by simp [hp])]; simp
      have hq : mayB c t k = false := hp
      rw [hq] at B1
      simp -implicitDefEqProofs only [go_sem, ↓reduceIte, Nat.reduceEqDiff, Nat.reduceAdd, Nat.reduceSub, Nat.reduceMul, Nat.reduceLeDiff, Nat.reduceLT, Nat.reduceBEq, Nat.reduceBNe, reduceCtorEq, beq_self_eq_true, Int.toNat_natCast, List.length_map, List.length_nil, Int.reduceToNat, Int.reduceAdd, Int.reduceSub, Int.reduceMul, Int.reduceLT, Int.reduceLE, Int.reduceEq, Int.reduceBEq, Int.reduceNeg, decide_true, decide_false, Nat.le_max_left, Nat.le_max_right, ne_eq, not_true_eq_false, not_false_eq_true, Int.natCast_zero, gt_iff_lt, ge_iff_le, Int.reduceGT, Int.reduceGE, Bool.false_and, Bool.and_false, Bool.true_and, Bool.and_true, ir143_l0, eK, e2, h2, x1, e9, e10, e5, d1, w1, vpS B1 rfl]
      refine .next hlt ⟨ov, ?_, ?_, ?_, ?_, ?_, ?_, ?_, by omega⟩ <;> (try simp -implicitDefEqProofs only [go_sem, ↓reduceIte, Nat.reduceEqDiff, Nat.reduceAdd, Nat.reduceSub, Nat.reduceMul, Nat.reduceLeDiff, Nat.reduceLT, Nat.reduceBEq, Nat.reduceBNe, reduceCtorEq, beq_self_eq_true, Int.toNat_natCast, List.length_map, List.length_nil, Int.reduceToNat, Int.reduceAdd, Int.reduceSub, Int.reduceMul, Int.reduceLT, Int.reduceLE, Int.reduceEq, Int.reduceBEq, Int.reduceNeg, decide_true, decide_false, Nat.le_max_left, Nat.le_max_right, ne_eq, not_true_eq_false, not_false_eq_true, Int.natCast_zero, gt_iff_lt, ge_iff_le, Int.reduceGT, Int.reduceGE, Bool.false_and, Bool.and_false, Bool.true_and, Bool.and_true, eK, e2, h2, x1, e9, e5, w1])
      rw [hs]; exact ho
  · have : k = c.cells.length := by omega
    subst this
    have d1 : decide ((c.cells.length : Int) < (c.cells.length : Int)) = false := by simp
    simp -implicitDefEqProofs only [go_sem, ↓reduceIte, Nat.reduceEqDiff, Nat.reduceAdd, Nat.reduceSub, Nat.reduceMul, Nat.reduceLeDiff, Nat.reduceLT, Nat.reduceBEq, Nat.reduceBNe, reduceCtorEq, beq_self_eq_true, Int.toNat_natCast, List.length_map, List.length_nil, Int.reduceToNat, Int.reduceAdd, Int.reduceSub, Int.reduceMul, Int.reduceLT, Int.reduceLE, Int.reduceEq, Int.reduceBEq, Int.reduceNeg, decide_true, decide_false, Nat.le_max_left, Nat.le_max_right, ne_eq, not_true_eq_false, not_false_eq_true, Int.natCast_zero, gt_iff_lt, ge_iff_le, Int.reduceGT, Int.reduceGE, Bool.false_and, Bool.and_false, Bool.true_and, Bool.and_true, ir143_l0, e9, e10, d1]
    exact .exit ⟨rfl, ov, by simp -implicitDefEqProofs only [go_sem, ↓reduceIte, Nat.reduceEqDiff, Nat.reduceAdd, Nat.reduceSub, Nat.reduceMul, Nat.reduceLeDiff, Nat.reduceLT, Nat.reduceBEq, Nat.reduceBNe, reduceCtorEq, beq_self_eq_true, Int.toNat_natCast, List.length_map, List.length_nil, Int.reduceToNat, Int.reduceAdd, Int.reduceSub, Int.reduceMul, Int.reduceLT, Int.reduceLE, Int.reduceEq, Int.reduceBEq, Int.reduceNeg, decide_true, decide_false, Nat.le_max_left, Nat.le_max_right, ne_eq, not_true_eq_false, not_false_eq_true, Int.natCast_zero, gt_iff_lt, ge_iff_le, Int.reduceGT, Int.reduceGE, Bool.false_and, Bool.and_false, Bool.true_and, Bool.and_true, e5], ho⟩
theorem FV_Apart (c : Conf) (hc : ConfOk c) (a b : Int) : FV PP shF 126 [.agg (eK c), dI a, dI b] = some (dB (apartB c a b)) := by
  refine FV_ok (F_ok PP126 rfl ⟨by simp [ir126], by simp⟩ ?_)
  unfold apartB
  by_cases h0 : 0 ≤ regOf c a
  · by_cases h1 : 0 ≤ regOf c b
    · simp -implicitDefEqProofs only [go_sem, ↓reduceIte, Nat.reduceEqDiff, Nat.reduceAdd, Nat.reduceSub, Nat.reduceMul, Nat.reduceLeDiff, Nat.reduceLT, Nat.reduceBEq, Nat.reduceBNe, reduceCtorEq, beq_self_eq_true, Int.toNat_natCast, List.length_map, List.length_nil, Int.reduceToNat, Int.reduceAdd, Int.reduceSub, Int.reduceMul, Int.reduceLT, Int.reduceLE, Int.reduceEq, Int.reduceBEq, Int.reduceNeg, decide_true, decide_false, Nat.le_max_left, Nat.le_max_right, ne_eq, not_true_eq_false, not_false_eq_true, Int.natCast_zero, gt_iff_lt, ge_iff_le, Int.reduceGT, Int.reduceGE, Bool.false_and, Bool.and_false, Bool.true_and, Bool.and_true, ir126, eK, vpS (FV_RegionOf c hc.lens a) rfl, vpS (FV_RegionOf c hc.lens b) rfl, h0, h1]
    · simp -implicitDefEqProofs only [go_sem, ↓reduceIte, Nat.reduceEqDiff, Nat.reduceAdd, Nat.reduceSub, Nat.reduceMul, Nat.reduceLeDiff, Nat.reduceLT, Nat.reduceBEq, Nat.reduceBNe, reduceCtorEq, beq_self_eq_true, Int.toNat_natCast, List.length_map, List.length_nil, Int.reduceToNat, Int.reduceAdd, Int.reduceSub, Int.reduceMul, Int.reduceLT, Int.reduceLE, Int.reduceEq, Int.reduceBEq, Int.reduceNeg, decide_true, decide_false, Nat.le_max_left, Nat.le_max_right, ne_eq, not_true_eq_false, not_false_eq_true, Int.natCast_zero, gt_iff_lt, ge_iff_le, Int.reduceGT, Int.reduceGE, Bool.false_and, Bool.and_false, Bool.true_and, Bool.and_true, ir126, eK, vpS (FV_RegionOf c hc.lens a) rfl, vpS (FV_RegionOf c hc.lens b) rfl, h0, h1]
  · simp -implicitDefEqProofs only [go_sem, ↓reduceIte, Nat.reduceEqDiff, Nat.reduceAdd, Nat.reduceSub, Nat.reduceMul, Nat.reduceLeDiff, Nat.reduceLT, Nat.reduceBEq, Nat.reduceBNe, reduceCtorEq, beq_self_eq_true, Int.toNat_natCast, List.length_map, List.length_nil, Int.reduceToNat, Int.reduceAdd, Int.reduceSub, Int.reduceMul, Int.reduceLT, Int.reduceLE, Int.reduceEq, Int.reduceBEq, Int.reduceNeg, decide_true, decide_false, Nat.le_max_left, Nat.le_max_right, ne_eq, not_true_eq_false, not_false_eq_true, Int.natCast_zero, gt_iff_lt, ge_iff_le, Int.reduceGT, Int.reduceGE, Bool.false_and, Bool.and_false, Bool.true_and, Bool.and_true, ir126, eK, vpS (FV_RegionOf c hc.lens a) rfl, vpS (FV_RegionOf c hc.lens b) rfl, h0]
theorem apartB_symm (c : Conf) (a b : Int) : apartB c a b = apartB c b a := by
  unfold apartB
  rw [Bool.and_comm (decide (0 ≤ regOf c a)), show (regOf c a != regOf c b) = (regOf c b != regOf c a) from by rw [bne_comm]]
theorem FV_MayAll (c : Conf) (hc : ConfOk c) (t i : Int) : FV PP shF 55 [.agg (eK c), dI t, dI i] = some (dB (mayB c t i)) := by
  by_cases h : 0 ≤ i ∧ i < c.cells.length
  · exact FV_May c hc t i h.1 h.2
  · refine FV_ok (F_ok PP55 rfl ⟨by simp [ir55], by simp⟩ ?_)
    have hl := hc.t1
    have w : IntKind.wrap .i64 ((c.tens.length : Int) - 1) = (c.tens.length : Int) - 1 := w64 (by omega) (by omega)
    have B := FV_between t 0 ((c.tens.length : Int) - 1)
    have B2 := FV_between (Cp.regOf c i) 0 3
    have hr := regOf_out h
    rw [hr] at B2
    have hm : mayB c t i = false := by unfold mayB has; rw [hr]; simp
    rw [hm]
    have R := FV_RegionOf c hc.lens i
    rw [hr] at R
    cases hb : (decide (0 ≤ t) && decide (t ≤ (c.tens.length : Int) - 1)) with
    | true =>
      rw [hb] at B
      simp -implicitDefEqProofs only [go_sem, ↓reduceIte, Nat.reduceEqDiff, Nat.reduceAdd, Nat.reduceSub, Nat.reduceMul, Nat.reduceLeDiff, Nat.reduceLT, Nat.reduceBEq, Nat.reduceBNe, reduceCtorEq, beq_self_eq_true, Int.toNat_natCast, List.length_map, List.length_nil, Int.reduceToNat, Int.reduceAdd, Int.reduceSub, Int.reduceMul, Int.reduceLT, Int.reduceLE, Int.reduceEq, Int.reduceBEq, Int.reduceNeg, decide_true, decide_false, Nat.le_max_left, Nat.le_max_right, ne_eq, not_true_eq_false, not_false_eq_true, Int.natCast_zero, gt_iff_lt, ge_iff_le, Int.reduceGT, Int.reduceGE, Bool.false_and, Bool.and_false, Bool.true_and, Bool.and_true, ir55, eK, w, vpS R rfl, vpS B rfl, vpS B2 rfl]
    | false =>
      rw [hb] at B
      simp -implicitDefEqProofs only [go_sem, ↓reduceIte, Nat.reduceEqDiff, Nat.reduceAdd, Nat.reduceSub, Nat.reduceMul, Nat.reduceLeDiff, Nat.reduceLT, Nat.reduceBEq, Nat.reduceBNe, reduceCtorEq, beq_self_eq_true, Int.toNat_natCast, List.length_map, List.length_nil, Int.reduceToNat, Int.reduceAdd, Int.reduceSub, Int.reduceMul, Int.reduceLT, Int.reduceLE, Int.reduceEq, Int.reduceBEq, Int.reduceNeg, decide_true, decide_false, Nat.le_max_left, Nat.le_max_right, ne_eq, not_true_eq_false, not_false_eq_true, Int.natCast_zero, gt_iff_lt, ge_iff_le, Int.reduceGT, Int.reduceGE, Bool.false_and, Bool.and_false, Bool.true_and, Bool.and_true, ir55, eK, w, vpS R rfl, vpS B rfl]
theorem lit1_closed {el : List DV} (h : el.all lit1 = true) : closedL el = true := by
  rw [closedL_iff]
  intro d hd
  have := List.all_eq_true.1 h d hd
  cases d with
  | lit v => cases v <;> simp_all [lit1, closedD]
  | _ => simp [lit1] at this
theorem lits_closed {L : List (List DV)} (h : L.all (fun el => el.all lit1) = true) : L.all closedL = true := by
  rw [List.all_eq_true] at h ⊢
  exact fun el hel => lit1_closed (h el hel)
/-- A call whose list is the caller's to write. -/
theorem vpU {g : Nat} {args : List DV} {e : Nat} {L : List (List DV)} (h : OkF (F PP shF g args [] 0) (fun d H => ∃ b, SlB H b e L d)) (hl : L.all (fun el => el.all lit1) = true) (base dst : Nat) (cl : Bool) (H : VHeap) :
    vpure PP shF base (some dst) g cl false H args = some (if L = [] then (.lit (.slice none 0 0), none) else (.ms (base + dst) ((hg H (base + dst)).ver + 1) 0 L.length L.length, some (hs H (base + dst) ⟨(hg H (base + dst)).ver + 1, e, true, L⟩))) := by
  obtain ⟨d, H1, h1, b, h2⟩ := h
  have hcl := lits_closed hl
  unfold vpure
  rw [h1]
  simp only [Option.bind_some, Option.map_some]
  rcases h2 with ⟨rfl, rfl⟩ | ⟨hne, ver, rfl, hb⟩
  · simp [vback, litD, lit2, lit1, nilD]
  · rw [if_neg hne]
    unfold vback
    rw [if_neg (by simp)]
    simp only [hb]
    rw [if_pos (by simp [hcl, hl])]
    simp [newB]
theorem OkF_Homes (c : Conf) (t : Int) (hc : ConfOk c) : OkF (F PP shF 143 [.agg (eK c), dI t] [] 0) (fun d H => ∃ b, SlB H b 1 ((sel c.cells.length (P52 c t)).map eI) d) := by
  refine F_ok PP143 rfl ⟨by simp [ir143], by simp⟩ ?_
  simp -implicitDefEqProofs only [go_sem, ↓reduceIte, Nat.reduceEqDiff, Nat.reduceAdd, Nat.reduceSub, Nat.reduceMul, Nat.reduceLeDiff, Nat.reduceLT, Nat.reduceBEq, Nat.reduceBNe, reduceCtorEq, beq_self_eq_true, Int.toNat_natCast, List.length_map, List.length_nil, Int.reduceToNat, Int.reduceAdd, Int.reduceSub, Int.reduceMul, Int.reduceLT, Int.reduceLE, Int.reduceEq, Int.reduceBEq, Int.reduceNeg, decide_true, decide_false, Nat.le_max_left, Nat.le_max_right, ne_eq, not_true_eq_false, not_false_eq_true, Int.natCast_zero, gt_iff_lt, ge_iff_le, Int.reduceGT, Int.reduceGE, Bool.false_and, Bool.and_false, Bool.true_and, Bool.and_true, ir143, eK]
  refine (loop143 c t hc 0 _ ?_).mono ?_
  · refine ⟨_, ?_, ?_, ?_, ?_, ?_, ?_, SlB.nil, by omega⟩ <;> simp -implicitDefEqProofs only [go_sem, ↓reduceIte, Nat.reduceEqDiff, Nat.reduceAdd, Nat.reduceSub, Nat.reduceMul, Nat.reduceLeDiff, Nat.reduceLT, Nat.reduceBEq, Nat.reduceBNe, reduceCtorEq, beq_self_eq_true, Int.toNat_natCast, List.length_map, List.length_nil, Int.reduceToNat, Int.reduceAdd, Int.reduceSub, Int.reduceMul, Int.reduceLT, Int.reduceLE, Int.reduceEq, Int.reduceBEq, Int.reduceNeg, decide_true, decide_false, Nat.le_max_left, Nat.le_max_right, ne_eq, not_true_eq_false, not_false_eq_true, Int.natCast_zero, gt_iff_lt, ge_iff_le, Int.reduceGT, Int.reduceGE, Bool.false_and, Bool.and_false, Bool.true_and, Bool.and_true, eK]
  rintro e ⟨E, H⟩ ⟨rfl, ov, e5, ho⟩
  simp only at e5 ho
  simp -implicitDefEqProofs only [go_sem, ↓reduceIte, Nat.reduceEqDiff, Nat.reduceAdd, Nat.reduceSub, Nat.reduceMul, Nat.reduceLeDiff, Nat.reduceLT, Nat.reduceBEq, Nat.reduceBNe, reduceCtorEq, beq_self_eq_true, Int.toNat_natCast, List.length_map, List.length_nil, Int.reduceToNat, Int.reduceAdd, Int.reduceSub, Int.reduceMul, Int.reduceLT, Int.reduceLE, Int.reduceEq, Int.reduceBEq, Int.reduceNeg, decide_true, decide_false, Nat.le_max_left, Nat.le_max_right, ne_eq, not_true_eq_false, not_false_eq_true, Int.natCast_zero, gt_iff_lt, ge_iff_le, Int.reduceGT, Int.reduceGE, Bool.false_and, Bool.and_false, Bool.true_and, Bool.and_true, e5]
  exact ⟨20, ho⟩
theorem FV_Standbys1 (c : Conf) (hc : ConfOk c) (i h : Int) : FV PP shF 152 [dI i, .rp (eK c), .rp [dI h]] = some (dB (!apartB c i h)) := by
  refine FV_ok (F_ok PP152 rfl ⟨by simp [ir152], by simp⟩ ?_)
  simp -implicitDefEqProofs only [go_sem, ↓reduceIte, Nat.reduceEqDiff, Nat.reduceAdd, Nat.reduceSub, Nat.reduceMul, Nat.reduceLeDiff, Nat.reduceLT, Nat.reduceBEq, Nat.reduceBNe, reduceCtorEq, beq_self_eq_true, Int.toNat_natCast, List.length_map, List.length_nil, Int.reduceToNat, Int.reduceAdd, Int.reduceSub, Int.reduceMul, Int.reduceLT, Int.reduceLE, Int.reduceEq, Int.reduceBEq, Int.reduceNeg, decide_true, decide_false, Nat.le_max_left, Nat.le_max_right, ne_eq, not_true_eq_false, not_false_eq_true, Int.natCast_zero, gt_iff_lt, ge_iff_le, Int.reduceGT, Int.reduceGE, Bool.false_and, Bool.and_false, Bool.true_and, Bool.and_true, ir152, eK, vpS (FV_Apart c hc i h) rfl]
def L156 (l : List Int) (g : Nat) (caps : List DV) (p : Int → Bool) (k : Nat) (w : VSt) : Prop := gt .bad w.E 0 = dL l ∧ gt .bad w.E 1 = .fn g caps ∧ gt .bad w.E 7 = dI (l.length : Nat) ∧ gt .bad w.E 8 = dI (k : Nat) ∧ k ≤ l.length ∧ ∀ j, j < k → p (l.getD j 0) = false
theorem index_l0 (l : List Int) (hl : l.length ≤ 1000000) (g : Nat) (caps : List DV) (hsg : shF g = false) (hfr : ∀ H, mapO (frzD H 6) caps = some caps) (p : Int → Bool) (hp : ∀ x, x ∈ l → FV PP shF g (dI x :: caps) = some (dB (p x))) :
    ∀ k w, L156 l g caps p k w → Ok (R PP shF 0 19 (.loop ir156_l0) w) (fun e w => (e = .exit 0 ∧ ∀ j, j < l.length → p (l.getD j 0) = false) ∨ (e = .ret ∧ ∃ i : Nat, i < l.length ∧ p (l.getD i 0) = true ∧ (∀ j, j < i → p (l.getD j 0) = false) ∧ gt .bad w.E 4 = dI (i : Nat))) := by
  refine Ok_up l.length (L156 l g caps p) fun k w hI => ?_
  obtain ⟨E, H⟩ := w
  obtain ⟨e0, e1, e7, e8, hk, hall⟩ := hI
  simp only at e0 e1 e7 e8
  have w1 : IntKind.wrap .i64 ((k : Int) + 1) = ((k + 1 : Nat) : Int) := by rw [w64 (by omega) (by omega)]; rfl
  by_cases hlt : k < l.length
  · have d1 : decide ((k : Int) < (l.length : Int)) = true := by simp; omega
    have q0 : (0 : Int) ≤ (k : Int) := by omega
    have q1 : (k : Int) < (l.length : Int) := by omega
    have g1 := getD_at (l := l) (i := k) (d := 0) hlt
    have hcall := vpS (hp _ (List.mem_of_getElem? g1)) rfl
    cases hpk : p (l.getD k 0) with
    | true =>
      rw [hpk] at hcall
      simp -implicitDefEqProofs only [go_sem, ↓reduceIte, Nat.reduceEqDiff, Nat.reduceAdd, Nat.reduceSub, Nat.reduceMul, Nat.reduceLeDiff, Nat.reduceLT, Nat.reduceBEq, Nat.reduceBNe, reduceCtorEq, beq_self_eq_true, Int.toNat_natCast, List.length_map, List.length_nil, Int.reduceToNat, Int.reduceAdd, Int.reduceSub, Int.reduceMul, Int.reduceLT, Int.reduceLE, Int.reduceEq, Int.reduceBEq, Int.reduceNeg, decide_true, decide_false, Nat.le_max_left, Nat.le_max_right, ne_eq, not_true_eq_false, not_false_eq_true, Int.natCast_zero, gt_iff_lt, ge_iff_le, Int.reduceGT, Int.reduceGE, Bool.false_and, Bool.and_false, Bool.true_and, Bool.and_true, ir156_l0, e0, e1, e7, e8, d1, q0, q1, g1, w1, vcall_pure hsg, hfr, hcall]
      exact .ret (.inr ⟨rfl, k, hlt, hpk, hall, by simp -implicitDefEqProofs only [go_sem, ↓reduceIte, Nat.reduceEqDiff, Nat.reduceAdd, Nat.reduceSub, Nat.reduceMul, Nat.reduceLeDiff, Nat.reduceLT, Nat.reduceBEq, Nat.reduceBNe, reduceCtorEq, beq_self_eq_true, Int.toNat_natCast, List.length_map, List.length_nil, Int.reduceToNat, Int.reduceAdd, Int.reduceSub, Int.reduceMul, Int.reduceLT, Int.reduceLE, Int.reduceEq, Int.reduceBEq, Int.reduceNeg, decide_true, decide_false, Nat.le_max_left, Nat.le_max_right, ne_eq, not_true_eq_false, not_false_eq_true, Int.natCast_zero, gt_iff_lt, ge_iff_le, Int.reduceGT, Int.reduceGE, Bool.false_and, Bool.and_false, Bool.true_and, Bool.and_true, ]⟩)
    | false =>
      rw [hpk] at hcall
      simp -implicitDefEqProofs only [go_sem, ↓reduceIte, Nat.reduceEqDiff, Nat.reduceAdd, Nat.reduceSub, Nat.reduceMul, Nat.reduceLeDiff, Nat.reduceLT, Nat.reduceBEq, Nat.reduceBNe, reduceCtorEq, beq_self_eq_true, Int.toNat_natCast, List.length_map, List.length_nil, Int.reduceToNat, Int.reduceAdd, Int.reduceSub, Int.reduceMul, Int.reduceLT, Int.reduceLE, Int.reduceEq, Int.reduceBEq, Int.reduceNeg, decide_true, decide_false, Nat.le_max_left, Nat.le_max_right, ne_eq, not_true_eq_false, not_false_eq_true, Int.natCast_zero, gt_iff_lt, ge_iff_le, Int.reduceGT, Int.reduceGE, Bool.false_and, Bool.and_false, Bool.true_and, Bool.and_true, ir156_l0, e0, e1, e7, e8, d1, q0, q1, g1, w1, vcall_pure hsg, hfr, hcall]
      refine .next hlt ⟨?_, ?_, ?_, ?_, by omega, fun j hj => ?_⟩ <;> (try simp -implicitDefEqProofs only [go_sem, ↓reduceIte, Nat.reduceEqDiff, Nat.reduceAdd, Nat.reduceSub, Nat.reduceMul, Nat.reduceLeDiff, Nat.reduceLT, Nat.reduceBEq, Nat.reduceBNe, reduceCtorEq, beq_self_eq_true, Int.toNat_natCast, List.length_map, List.length_nil, Int.reduceToNat, Int.reduceAdd, Int.reduceSub, Int.reduceMul, Int.reduceLT, Int.reduceLE, Int.reduceEq, Int.reduceBEq, Int.reduceNeg, decide_true, decide_false, Nat.le_max_left, Nat.le_max_right, ne_eq, not_true_eq_false, not_false_eq_true, Int.natCast_zero, gt_iff_lt, ge_iff_le, Int.reduceGT, Int.reduceGE, Bool.false_and, Bool.and_false, Bool.true_and, Bool.and_true, e0, e1, e7, e8, w1])
      by_cases hjk : j = k
      · subst hjk; exact hpk
      · exact hall j (by omega)
  · have : k = l.length := by omega
    subst this
    have d1 : decide ((l.length : Int) < (l.length : Int)) = false := by simp
    simp -implicitDefEqProofs only [go_sem, ↓reduceIte, Nat.reduceEqDiff, Nat.reduceAdd, Nat.reduceSub, Nat.reduceMul, Nat.reduceLeDiff, Nat.reduceLT, Nat.reduceBEq, Nat.reduceBNe, reduceCtorEq, beq_self_eq_true, Int.toNat_natCast, List.length_map, List.length_nil, Int.reduceToNat, Int.reduceAdd, Int.reduceSub, Int.reduceMul, Int.reduceLT, Int.reduceLE, Int.reduceEq, Int.reduceBEq, Int.reduceNeg, decide_true, decide_false, Nat.le_max_left, Nat.le_max_right, ne_eq, not_true_eq_false, not_false_eq_true, Int.natCast_zero, gt_iff_lt, ge_iff_le, Int.reduceGT, Int.reduceGE, Bool.false_and, Bool.and_false, Bool.true_and, Bool.and_true, ir156_l0, e7, e8, d1]
    exact .exit (.inl ⟨rfl, hall⟩)
theorem FV_IndexFunc (l : List Int) (hl : l.length ≤ 1000000) (g : Nat) (caps : List DV) (hsg : shF g = false) (hfr : ∀ H, mapO (frzD H 6) caps = some caps) (p : Int → Bool) (hp : ∀ x, x ∈ l → FV PP shF g (dI x :: caps) = some (dB (p x))) :
    (FV PP shF 156 [dL l, .fn g caps] = some (dI (-1)) ∧ ∀ x, x ∈ l → p x = false) ∨ ∃ i : Nat, FV PP shF 156 [dL l, .fn g caps] = some (dI (i : Nat)) ∧ i < l.length ∧ p (l.getD i 0) = true ∧ ∀ j, j < i → p (l.getD j 0) = false := by
  have key : OkF (F PP shF 156 [dL l, .fn g caps] [] 0) (fun d H => (d = dI (-1) ∧ ∀ j, j < l.length → p (l.getD j 0) = false) ∨ ∃ i : Nat, d = dI (i : Nat) ∧ i < l.length ∧ p (l.getD i 0) = true ∧ ∀ j, j < i → p (l.getD j 0) = false) := by
    refine F_ok PP156 rfl ⟨by simp [ir156], by simp⟩ ?_
    simp -implicitDefEqProofs only [go_sem, ↓reduceIte, Nat.reduceEqDiff, Nat.reduceAdd, Nat.reduceSub, Nat.reduceMul, Nat.reduceLeDiff, Nat.reduceLT, Nat.reduceBEq, Nat.reduceBNe, reduceCtorEq, beq_self_eq_true, Int.toNat_natCast, List.length_map, List.length_nil, Int.reduceToNat, Int.reduceAdd, Int.reduceSub, Int.reduceMul, Int.reduceLT, Int.reduceLE, Int.reduceEq, Int.reduceBEq, Int.reduceNeg, decide_true, decide_false, Nat.le_max_left, Nat.le_max_right, ne_eq, not_true_eq_false, not_false_eq_true, Int.natCast_zero, gt_iff_lt, ge_iff_le, Int.reduceGT, Int.reduceGE, Bool.false_and, Bool.and_false, Bool.true_and, Bool.and_true, ir156]
    refine (index_l0 l hl g caps hsg hfr p hp 0 _ ⟨?_, ?_, ?_, ?_, by omega, by omega⟩).mono ?_ <;> (try simp -implicitDefEqProofs only [go_sem, ↓reduceIte, Nat.reduceEqDiff, Nat.reduceAdd, Nat.reduceSub, Nat.reduceMul, Nat.reduceLeDiff, Nat.reduceLT, Nat.reduceBEq, Nat.reduceBNe, reduceCtorEq, beq_self_eq_true, Int.toNat_natCast, List.length_map, List.length_nil, Int.reduceToNat, Int.reduceAdd, Int.reduceSub, Int.reduceMul, Int.reduceLT, Int.reduceLE, Int.reduceEq, Int.reduceBEq, Int.reduceNeg, decide_true, decide_false, Nat.le_max_left, Nat.le_max_right, ne_eq, not_true_eq_false, not_false_eq_true, Int.natCast_zero, gt_iff_lt, ge_iff_le, Int.reduceGT, Int.reduceGE, Bool.false_and, Bool.and_false, Bool.true_and, Bool.and_true, ])
    rintro e ⟨E, H⟩ (⟨rfl, h⟩ | ⟨rfl, i, h1, h2, h3, e4⟩)
    · simp -implicitDefEqProofs only [go_sem, ↓reduceIte, Nat.reduceEqDiff, Nat.reduceAdd, Nat.reduceSub, Nat.reduceMul, Nat.reduceLeDiff, Nat.reduceLT, Nat.reduceBEq, Nat.reduceBNe, reduceCtorEq, beq_self_eq_true, Int.toNat_natCast, List.length_map, List.length_nil, Int.reduceToNat, Int.reduceAdd, Int.reduceSub, Int.reduceMul, Int.reduceLT, Int.reduceLE, Int.reduceEq, Int.reduceBEq, Int.reduceNeg, decide_true, decide_false, Nat.le_max_left, Nat.le_max_right, ne_eq, not_true_eq_false, not_false_eq_true, Int.natCast_zero, gt_iff_lt, ge_iff_le, Int.reduceGT, Int.reduceGE, Bool.false_and, Bool.and_false, Bool.true_and, Bool.and_true, ]
      exact .inl h
    · simp only at e4
      simp -implicitDefEqProofs only [go_sem, ↓reduceIte, Nat.reduceEqDiff, Nat.reduceAdd, Nat.reduceSub, Nat.reduceMul, Nat.reduceLeDiff, Nat.reduceLT, Nat.reduceBEq, Nat.reduceBNe, reduceCtorEq, beq_self_eq_true, Int.toNat_natCast, List.length_map, List.length_nil, Int.reduceToNat, Int.reduceAdd, Int.reduceSub, Int.reduceMul, Int.reduceLT, Int.reduceLE, Int.reduceEq, Int.reduceBEq, Int.reduceNeg, decide_true, decide_false, Nat.le_max_left, Nat.le_max_right, ne_eq, not_true_eq_false, not_false_eq_true, Int.natCast_zero, gt_iff_lt, ge_iff_le, Int.reduceGT, Int.reduceGE, Bool.false_and, Bool.and_false, Bool.true_and, Bool.and_true, e4]
      exact .inr ⟨i, rfl, h1, h2, h3⟩
  obtain ⟨d, H, h1, h2⟩ := key
  rcases h2 with ⟨rfl, h⟩ | ⟨i, rfl, h⟩
  · refine .inl ⟨FV_of h1 rfl, fun x hx => ?_⟩
    obtain ⟨j, hj, rfl⟩ := List.mem_iff_getElem.1 hx
    have := h j hj
    rwa [List.getD_eq_getElem?_getD, List.getElem?_eq_getElem hj] at this
  · exact .inr ⟨i, FV_of h1 rfl, h⟩
/-- What DeleteFunc makes of a list so far. -/
structure Del (l m : List Int) (q : Int → Bool) (i j : Nat) : Prop where
  len : m.length = l.length
  tk : m.take i = (l.take j).filter q
  dr : m.drop j = l.drop j
  il : i = ((l.take j).filter q).length
  ij : i < j
theorem Del.set {l m : List Int} {q : Int → Bool} {i j : Nat} (h : Del l m q i j) (hj : j < l.length) (hq : q (l.getD j 0) = true) : Del l (m.set i (l.getD j 0)) q (i + 1) (j + 1) := by
  have hij := h.ij
  have hml := h.len
  have e : l.take (j + 1) = l.take j ++ [l.getD j 0] := by rw [List.take_add_one, getD_at (l := l) (i := j) (d := 0) hj]; rfl
  have ef : (l.take (j + 1)).filter q = (l.take j).filter q ++ [l.getD j 0] := by rw [e, List.filter_append, List.filter_cons, if_pos hq, List.filter_nil]
  refine ⟨by simp [hml], ?_, ?_, ?_, by omega⟩
  · rw [ef, ← h.tk, List.take_add_one, List.getElem?_set_self (by omega)]
    rw [List.take_set_of_le (Nat.le_refl _)]
    rfl
  · have := congrArg (List.drop 1) h.dr
    rw [List.drop_drop, List.drop_drop] at this
    rw [List.drop_set_of_lt (by omega)]
    exact this
  · rw [ef, List.length_append, ← h.il]; rfl
theorem Del.skip {l m : List Int} {q : Int → Bool} {i j : Nat} (h : Del l m q i j) (hj : j < l.length) (hq : q (l.getD j 0) = false) : Del l m q i (j + 1) := by
  have hij := h.ij
  have e : l.take (j + 1) = l.take j ++ [l.getD j 0] := by rw [List.take_add_one, getD_at (l := l) (i := j) (d := 0) hj]; rfl
  have ef : (l.take (j + 1)).filter q = (l.take j).filter q := by rw [e, List.filter_append, List.filter_cons, if_neg (by rw [hq]; simp), List.filter_nil, List.append_nil]
  refine ⟨h.len, by rw [ef]; exact h.tk, ?_, by rw [ef]; exact h.il, by omega⟩
  have := congrArg (List.drop 1) h.dr
  rw [List.drop_drop, List.drop_drop] at this
  exact this
def L151 (c : Conf) (h : Int) (b ver b3 v3 b5 v5 : Nat) (l : List Int) (H0 : VHeap) (j : Nat) (w : VSt) : Prop := ∃ (m : List Int) (i : Nat), Del l m (fun x => apartB c x h) i j ∧ gt .bad w.E 0 = .ms b ver 0 l.length l.length ∧ gt .bad w.E 1 = .fn 152 [.mp b3 v3 0 0, .mp b5 v5 0 0] ∧ gt .bad w.E 5 = dI (i : Nat) ∧ gt .bad w.E 6 = dI (j : Nat) ∧ w.H = hs H0 b ⟨ver, 1, true, m.map eI⟩ ∧ j ≤ l.length
theorem delete_l0 (c : Conf) (hc : ConfOk c) (h : Int) (b ver b3 v3 b5 v5 : Nat) (hb3 : b ≠ b3) (hb5 : b ≠ b5) (l : List Int) (hl : l.length ≤ 1000000) (base : Nat) (H0 : VHeap) (g3 : hg H0 b3 = ⟨v3, 0, true, [eK c]⟩) (g5 : hg H0 b5 = ⟨v5, 0, true, [[dI h]]⟩) : ∀ j w, L151 c h b ver b3 v3 b5 v5 l H0 j w → Ok (R PP shF base 42 (.loop ir151_l0) w) (fun e w => e = .exit 0 ∧ L151 c h b ver b3 v3 b5 v5 l H0 l.length w) := by
  refine Ok_up l.length (L151 c h b ver b3 v3 b5 v5 l H0) fun j w hI => ?_
  obtain ⟨E, H⟩ := w
  obtain ⟨m, i, hd, e0, e1, e5, e6, eH, hj⟩ := hI
  simp only at e0 e1 e5 e6 eH
  have hb : hg H b = ⟨ver, 1, true, m.map eI⟩ := by subst eH; simp -implicitDefEqProofs only [go_sem, ↓reduceIte, Nat.reduceEqDiff, Nat.reduceAdd, Nat.reduceSub, Nat.reduceMul, Nat.reduceLeDiff, Nat.reduceLT, Nat.reduceBEq, Nat.reduceBNe, reduceCtorEq, beq_self_eq_true, Int.toNat_natCast, List.length_map, List.length_nil, Int.reduceToNat, Int.reduceAdd, Int.reduceSub, Int.reduceMul, Int.reduceLT, Int.reduceLE, Int.reduceEq, Int.reduceBEq, Int.reduceNeg, decide_true, decide_false, Nat.le_max_left, Nat.le_max_right, ne_eq, not_true_eq_false, not_false_eq_true, Int.natCast_zero, gt_iff_lt, ge_iff_le, Int.reduceGT, Int.reduceGE, Bool.false_and, Bool.and_false, Bool.true_and, Bool.and_true, ]
  have h3 : hg H b3 = ⟨v3, 0, true, [eK c]⟩ := by subst eH; simp -implicitDefEqProofs only [go_sem, ↓reduceIte, Nat.reduceEqDiff, Nat.reduceAdd, Nat.reduceSub, Nat.reduceMul, Nat.reduceLeDiff, Nat.reduceLT, Nat.reduceBEq, Nat.reduceBNe, reduceCtorEq, beq_self_eq_true, Int.toNat_natCast, List.length_map, List.length_nil, Int.reduceToNat, Int.reduceAdd, Int.reduceSub, Int.reduceMul, Int.reduceLT, Int.reduceLE, Int.reduceEq, Int.reduceBEq, Int.reduceNeg, decide_true, decide_false, Nat.le_max_left, Nat.le_max_right, ne_eq, not_true_eq_false, not_false_eq_true, Int.natCast_zero, gt_iff_lt, ge_iff_le, Int.reduceGT, Int.reduceGE, Bool.false_and, Bool.and_false, Bool.true_and, Bool.and_true, hb3, g3]
  have h5 : hg H b5 = ⟨v5, 0, true, [[dI h]]⟩ := by subst eH; simp -implicitDefEqProofs only [go_sem, ↓reduceIte, Nat.reduceEqDiff, Nat.reduceAdd, Nat.reduceSub, Nat.reduceMul, Nat.reduceLeDiff, Nat.reduceLT, Nat.reduceBEq, Nat.reduceBNe, reduceCtorEq, beq_self_eq_true, Int.toNat_natCast, List.length_map, List.length_nil, Int.reduceToNat, Int.reduceAdd, Int.reduceSub, Int.reduceMul, Int.reduceLT, Int.reduceLE, Int.reduceEq, Int.reduceBEq, Int.reduceNeg, decide_true, decide_false, Nat.le_max_left, Nat.le_max_right, ne_eq, not_true_eq_false, not_false_eq_true, Int.natCast_zero, gt_iff_lt, ge_iff_le, Int.reduceGT, Int.reduceGE, Bool.false_and, Bool.and_false, Bool.true_and, Bool.and_true, hb5, g5]
  have hml := hd.len
  have hij := hd.ij
  have w1 : IntKind.wrap .i64 ((j : Int) + 1) = ((j + 1 : Nat) : Int) := by rw [w64 (by omega) (by omega)]; rfl
  have w2 : IntKind.wrap .i64 ((i : Int) + 1) = ((i + 1 : Nat) : Int) := by rw [w64 (by omega) (by omega)]; rfl
  by_cases hlt : j < l.length
  · have d1 : decide ((j : Int) < (l.length : Int)) = true := by simp; omega
    have q0 : (0 : Int) ≤ (j : Int) := by omega
    have q1 : (j : Int) < (l.length : Int) := by omega
    have r0 : (0 : Int) ≤ (i : Int) := by omega
    have r1 : (i : Int) < (l.length : Int) := by omega
    have gm : m[j]? = some (l.getD j 0) := by
      have h1 := congrArg (fun x : List Int => x[0]?) hd.dr
      simp only [List.getElem?_drop, Nat.add_zero] at h1
      rw [h1]; exact getD_at hlt
    have gi := getD_at (l := m) (i := i) (d := 0) (by omega)
    have B := FV_Standbys1 c hc (l.getD j 0) h
    cases hp : apartB c (l.getD j 0) h with
    | true =>
      rw [hp] at B
      have t1 : (List.map eI m).set i [dI (l.getD j 0)] = List.map eI (m.set i (l.getD j 0)) := (List.map_set (f := eI) (l := m) (i := i) (a := l.getD j 0)).symm
      simp -implicitDefEqProofs only [go_sem, ↓reduceIte, Nat.reduceEqDiff, Nat.reduceAdd, Nat.reduceSub, Nat.reduceMul, Nat.reduceLeDiff, Nat.reduceLT, Nat.reduceBEq, Nat.reduceBNe, reduceCtorEq, beq_self_eq_true, Int.toNat_natCast, List.length_map, List.length_nil, Int.reduceToNat, Int.reduceAdd, Int.reduceSub, Int.reduceMul, Int.reduceLT, Int.reduceLE, Int.reduceEq, Int.reduceBEq, Int.reduceNeg, decide_true, decide_false, Nat.le_max_left, Nat.le_max_right, ne_eq, not_true_eq_false, not_false_eq_true, Int.natCast_zero, gt_iff_lt, ge_iff_le, Int.reduceGT, Int.reduceGE, Bool.false_and, Bool.and_false, Bool.true_and, Bool.and_true, ir151_l0, e0, e1, e5, e6, hb, h3, h5, d1, q0, q1, r0, r1, gm, gi, hml, w1, w2, vpS B rfl, t1]
      refine .next hlt ⟨_, i + 1, hd.set hlt hp, ?_, ?_, ?_, ?_, ?_, by omega⟩ <;> simp -implicitDefEqProofs only [go_sem, ↓reduceIte, Nat.reduceEqDiff, Nat.reduceAdd, Nat.reduceSub, Nat.reduceMul, Nat.reduceLeDiff, Nat.reduceLT, Nat.reduceBEq, Nat.reduceBNe, reduceCtorEq, beq_self_eq_true, Int.toNat_natCast, List.length_map, List.length_nil, Int.reduceToNat, Int.reduceAdd, Int.reduceSub, Int.reduceMul, Int.reduceLT, Int.reduceLE, Int.reduceEq, Int.reduceBEq, Int.reduceNeg, decide_true, decide_false, Nat.le_max_left, Nat.le_max_right, ne_eq, not_true_eq_false, not_false_eq_true, Int.natCast_zero, gt_iff_lt, ge_iff_le, Int.reduceGT, Int.reduceGE, Bool.false_and, Bool.and_false, Bool.true_and, Bool.and_true, e0, e1, w1, w2, eH, hs_hs]
    | false =>
      rw [hp] at B
      simp -implicitDefEqProofs only [go_sem, ↓reduceIte, Nat.reduceEqDiff, Nat.reduceAdd, Nat.reduceSub, Nat.reduceMul, Nat.reduceLeDiff, Nat.reduceLT, Nat.reduceBEq, Nat.reduceBNe, reduceCtorEq, beq_self_eq_true, Int.toNat_natCast, List.length_map, List.length_nil, Int.reduceToNat, Int.reduceAdd, Int.reduceSub, Int.reduceMul, Int.reduceLT, Int.reduceLE, Int.reduceEq, Int.reduceBEq, Int.reduceNeg, decide_true, decide_false, Nat.le_max_left, Nat.le_max_right, ne_eq, not_true_eq_false, not_false_eq_true, Int.natCast_zero, gt_iff_lt, ge_iff_le, Int.reduceGT, Int.reduceGE, Bool.false_and, Bool.and_false, Bool.true_and, Bool.and_true, ir151_l0, e0, e1, e5, e6, hb, h3, h5, d1, q0, q1, r0, r1, gm, gi, hml, w1, w2, vpS B rfl]
      refine .next hlt ⟨m, i, hd.skip hlt hp, ?_, ?_, ?_, ?_, eH, by omega⟩ <;> simp -implicitDefEqProofs only [go_sem, ↓reduceIte, Nat.reduceEqDiff, Nat.reduceAdd, Nat.reduceSub, Nat.reduceMul, Nat.reduceLeDiff, Nat.reduceLT, Nat.reduceBEq, Nat.reduceBNe, reduceCtorEq, beq_self_eq_true, Int.toNat_natCast, List.length_map, List.length_nil, Int.reduceToNat, Int.reduceAdd, Int.reduceSub, Int.reduceMul, Int.reduceLT, Int.reduceLE, Int.reduceEq, Int.reduceBEq, Int.reduceNeg, decide_true, decide_false, Nat.le_max_left, Nat.le_max_right, ne_eq, not_true_eq_false, not_false_eq_true, Int.natCast_zero, gt_iff_lt, ge_iff_le, Int.reduceGT, Int.reduceGE, Bool.false_and, Bool.and_false, Bool.true_and, Bool.and_true, e0, e1, e5, w1]
  · have hjl : j = l.length := by omega
    subst hjl
    have d1 : decide ((l.length : Int) < (l.length : Int)) = false := by simp
    simp -implicitDefEqProofs only [go_sem, ↓reduceIte, Nat.reduceEqDiff, Nat.reduceAdd, Nat.reduceSub, Nat.reduceMul, Nat.reduceLeDiff, Nat.reduceLT, Nat.reduceBEq, Nat.reduceBNe, reduceCtorEq, beq_self_eq_true, Int.toNat_natCast, List.length_map, List.length_nil, Int.reduceToNat, Int.reduceAdd, Int.reduceSub, Int.reduceMul, Int.reduceLT, Int.reduceLE, Int.reduceEq, Int.reduceBEq, Int.reduceNeg, decide_true, decide_false, Nat.le_max_left, Nat.le_max_right, ne_eq, not_true_eq_false, not_false_eq_true, Int.natCast_zero, gt_iff_lt, ge_iff_le, Int.reduceGT, Int.reduceGE, Bool.false_and, Bool.and_false, Bool.true_and, Bool.and_true, ir151_l0, e0, e6, hb, d1]
    refine .exit ⟨rfl, m, i, hd, ?_, ?_, ?_, ?_, eH, Nat.le_refl _⟩ <;> simp -implicitDefEqProofs only [go_sem, ↓reduceIte, Nat.reduceEqDiff, Nat.reduceAdd, Nat.reduceSub, Nat.reduceMul, Nat.reduceLeDiff, Nat.reduceLT, Nat.reduceBEq, Nat.reduceBNe, reduceCtorEq, beq_self_eq_true, Int.toNat_natCast, List.length_map, List.length_nil, Int.reduceToNat, Int.reduceAdd, Int.reduceSub, Int.reduceMul, Int.reduceLT, Int.reduceLE, Int.reduceEq, Int.reduceBEq, Int.reduceNeg, decide_true, decide_false, Nat.le_max_left, Nat.le_max_right, ne_eq, not_true_eq_false, not_false_eq_true, Int.natCast_zero, gt_iff_lt, ge_iff_le, Int.reduceGT, Int.reduceGE, Bool.false_and, Bool.and_false, Bool.true_and, Bool.and_true, e0, e1, e5, e6]
theorem filter_take_all {l : List Int} {q : Int → Bool} : ∀ {i : Nat}, i ≤ l.length → (∀ j, j < i → q (l.getD j 0) = true) → (l.take i).filter q = l.take i
  | 0, _, _ => by simp
  | i + 1, hi, h => by
    have e : l.take (i + 1) = l.take i ++ [l.getD i 0] := by rw [List.take_add_one, getD_at (l := l) (i := i) (d := 0) (by omega)]; rfl
    rw [e, List.filter_append, filter_take_all (by omega) (fun j hj => h j (by omega)), List.filter_cons, if_pos (h i (by omega)), List.filter_nil]
theorem hs_selfx {H : VHeap} {b : Nat} {x : VB} (h : hg H b = x) (hx : x.live = true) : hs H b x = H := by
  apply VHeap.ext'
  · rw [hs_len]
    have : b < H.length := by
      rcases Nat.lt_or_ge b H.length with h1 | h1
      · exact h1
      · rw [hg_ge H h1] at h; subst h; simp at hx
    omega
  · intro c
    rw [hg_hs]
    split
    · rename_i e; subst e; exact h.symm
    · rfl
theorem F_DeleteFunc (c : Conf) (hc : ConfOk c) (h : Int) (b ver b3 v3 b5 v5 : Nat) (hb3 : b ≠ b3) (hb5 : b ≠ b5) (l : List Int) (hl : l.length ≤ 1000000) (H : VHeap) (base : Nat) (hb : hg H b = ⟨ver, 1, true, l.map eI⟩) (h3 : hg H b3 = ⟨v3, 0, true, [eK c]⟩) (h5 : hg H b5 = ⟨v5, 0, true, [[dI h]]⟩) (hbase : H.length ≤ base) :
    F PP shF 151 [.ms b ver 0 l.length l.length, .fn 152 [.mp b3 v3 0 0, .mp b5 v5 0 0]] H base = some (.ms b ver 0 (l.filter fun x => apartB c x h).length l.length, hs H b ⟨ver, 1, true, ((l.filter fun x => apartB c x h) ++ List.replicate (l.length - (l.filter fun x => apartB c x h).length) 0).map eI⟩) := by
  suffices hsuf : OkF (F PP shF 151 [.ms b ver 0 l.length l.length, .fn 152 [.mp b3 v3 0 0, .mp b5 v5 0 0]] H base) (fun d H' => d = .ms b ver 0 (l.filter fun x => apartB c x h).length l.length ∧ H' = Cp.hs H b ⟨ver, 1, true, ((l.filter fun x => apartB c x h) ++ List.replicate (l.length - (l.filter fun x => apartB c x h).length) 0).map eI⟩) by
    obtain ⟨d, H', h1, rfl, rfl⟩ := hsuf; exact h1
  refine F_ok PP151 rfl ⟨by simp [ir151], by simpa using hbase⟩ ?_
  have lc := closed_eI l
  have lt : List.take l.length (List.map eI l) = List.map eI l := List.take_of_length_le (by simp)
  rcases FV_IndexFunc l hl 152 [.rp (eK c), .rp [dI h]] rfl (fun _ => rfl) (fun x => !apartB c x h) (fun x _ => FV_Standbys1 c hc x h) with ⟨hI, hall⟩ | ⟨i, hI, hi, hp, hall⟩
  · have hf : (l.filter fun x => apartB c x h) = l := List.filter_eq_self.2 fun x hx => by simpa using hall x hx
    have hse := hs_selfx hb rfl
    rw [hf]
    simp -implicitDefEqProofs only [go_sem, ↓reduceIte, Nat.reduceEqDiff, Nat.reduceAdd, Nat.reduceSub, Nat.reduceMul, Nat.reduceLeDiff, Nat.reduceLT, Nat.reduceBEq, Nat.reduceBNe, reduceCtorEq, beq_self_eq_true, Int.toNat_natCast, List.length_map, List.length_nil, Int.reduceToNat, Int.reduceAdd, Int.reduceSub, Int.reduceMul, Int.reduceLT, Int.reduceLE, Int.reduceEq, Int.reduceBEq, Int.reduceNeg, decide_true, decide_false, Nat.le_max_left, Nat.le_max_right, ne_eq, not_true_eq_false, not_false_eq_true, Int.natCast_zero, gt_iff_lt, ge_iff_le, Int.reduceGT, Int.reduceGE, Bool.false_and, Bool.and_false, Bool.true_and, Bool.and_true, ir151, hb, h3, h5, lc, lt, vpS hI rfl, Nat.sub_self, List.replicate_zero, hse]
  · have w0 : ((i : Int) == -1) = false := by simp
    have w1 : IntKind.wrap .i64 ((i : Int) + 1) = ((i + 1 : Nat) : Int) := by rw [w64 (by omega) (by omega)]; rfl
    have d0 : Del l l (fun x => apartB c x h) i (i + 1) := by
      have h1 : (l.take i).filter (fun x => apartB c x h) = l.take i := filter_take_all (by omega) (fun j hj => by simpa using hall j hj)
      have e : l.take (i + 1) = l.take i ++ [l.getD i 0] := by rw [List.take_add_one, getD_at (l := l) (i := i) (d := 0) (by omega)]; rfl
      have ef : (l.take (i + 1)).filter (fun x => apartB c x h) = l.take i := by
        rw [e, List.filter_append, h1, List.filter_cons, if_neg (by simpa using hp), List.filter_nil, List.append_nil]
      exact ⟨rfl, by rw [ef], rfl, by rw [ef, List.length_take]; omega, by omega⟩
    have hse := hs_selfx hb rfl
    simp -implicitDefEqProofs only [go_sem, ↓reduceIte, Nat.reduceEqDiff, Nat.reduceAdd, Nat.reduceSub, Nat.reduceMul, Nat.reduceLeDiff, Nat.reduceLT, Nat.reduceBEq, Nat.reduceBNe, reduceCtorEq, beq_self_eq_true, Int.toNat_natCast, List.length_map, List.length_nil, Int.reduceToNat, Int.reduceAdd, Int.reduceSub, Int.reduceMul, Int.reduceLT, Int.reduceLE, Int.reduceEq, Int.reduceBEq, Int.reduceNeg, decide_true, decide_false, Nat.le_max_left, Nat.le_max_right, ne_eq, not_true_eq_false, not_false_eq_true, Int.natCast_zero, gt_iff_lt, ge_iff_le, Int.reduceGT, Int.reduceGE, Bool.false_and, Bool.and_false, Bool.true_and, Bool.and_true, ir151, hb, h3, h5, lc, lt, vpS hI rfl, w0, w1]
    refine (delete_l0 c hc h b ver b3 v3 b5 v5 hb3 hb5 l hl base H h3 h5 (i + 1) _ ⟨l, i, d0, ?_, ?_, ?_, ?_, hse.symm, by omega⟩).mono ?_ <;> (try simp -implicitDefEqProofs only [go_sem, ↓reduceIte, Nat.reduceEqDiff, Nat.reduceAdd, Nat.reduceSub, Nat.reduceMul, Nat.reduceLeDiff, Nat.reduceLT, Nat.reduceBEq, Nat.reduceBNe, reduceCtorEq, beq_self_eq_true, Int.toNat_natCast, List.length_map, List.length_nil, Int.reduceToNat, Int.reduceAdd, Int.reduceSub, Int.reduceMul, Int.reduceLT, Int.reduceLE, Int.reduceEq, Int.reduceBEq, Int.reduceNeg, decide_true, decide_false, Nat.le_max_left, Nat.le_max_right, ne_eq, not_true_eq_false, not_false_eq_true, Int.natCast_zero, gt_iff_lt, ge_iff_le, Int.reduceGT, Int.reduceGE, Bool.false_and, Bool.and_false, Bool.true_and, Bool.and_true, ])
    rintro e ⟨E, H'⟩ ⟨rfl, m, k, hd, e0, e1, e5, e6, eH, _⟩
    simp only at e0 e1 e5 e6 eH
    have hb' : hg H' b = ⟨ver, 1, true, m.map eI⟩ := by subst eH; simp -implicitDefEqProofs only [go_sem, ↓reduceIte, Nat.reduceEqDiff, Nat.reduceAdd, Nat.reduceSub, Nat.reduceMul, Nat.reduceLeDiff, Nat.reduceLT, Nat.reduceBEq, Nat.reduceBNe, reduceCtorEq, beq_self_eq_true, Int.toNat_natCast, List.length_map, List.length_nil, Int.reduceToNat, Int.reduceAdd, Int.reduceSub, Int.reduceMul, Int.reduceLT, Int.reduceLE, Int.reduceEq, Int.reduceBEq, Int.reduceNeg, decide_true, decide_false, Nat.le_max_left, Nat.le_max_right, ne_eq, not_true_eq_false, not_false_eq_true, Int.natCast_zero, gt_iff_lt, ge_iff_le, Int.reduceGT, Int.reduceGE, Bool.false_and, Bool.and_false, Bool.true_and, Bool.and_true, ]
    have hij := hd.ij
    have hml := hd.len
    have hil := hd.il
    have htk := hd.tk
    rw [List.take_length] at hil htk
    have r0 : (0 : Int) ≤ (k : Int) ∧ (k : Int) ≤ (l.length : Int) := by omega
    have r1 : ¬ l.length - k = 0 := by omega
    have r2 : k + (l.length - k) ≤ l.length := by omega
    have ra : ((List.replicate (l.length - k) [dI 0]).all fun el => el.length == 1 && el.all oneD) = true := by
      rw [List.all_eq_true]
      intro el hel
      rw [(List.mem_replicate.1 hel).2]; rfl
    have rd : List.take k (List.map eI m) ++ List.replicate (l.length - k) [dI 0] ++ List.drop (k + (l.length - k)) (List.map eI m) = List.map eI ((l.filter fun x => apartB c x h) ++ List.replicate (l.length - k) 0) := by
      rw [List.drop_of_length_le (by simp [hml]; omega), List.append_nil, List.map_append, ← htk, List.map_take, List.map_replicate]
    simp -implicitDefEqProofs only [go_sem, ↓reduceIte, Nat.reduceEqDiff, Nat.reduceAdd, Nat.reduceSub, Nat.reduceMul, Nat.reduceLeDiff, Nat.reduceLT, Nat.reduceBEq, Nat.reduceBNe, reduceCtorEq, beq_self_eq_true, Int.toNat_natCast, List.length_map, List.length_nil, Int.reduceToNat, Int.reduceAdd, Int.reduceSub, Int.reduceMul, Int.reduceLT, Int.reduceLE, Int.reduceEq, Int.reduceBEq, Int.reduceNeg, decide_true, decide_false, Nat.le_max_left, Nat.le_max_right, ne_eq, not_true_eq_false, not_false_eq_true, Int.natCast_zero, gt_iff_lt, ge_iff_le, Int.reduceGT, Int.reduceGE, Bool.false_and, Bool.and_false, Bool.true_and, Bool.and_true, e0, e1, e5, hb', r0, r1, r2, hml, List.length_replicate, Int.le_refl, ra, rd, ← hil]
    rw [eH, hs_hs]
theorem F_DeleteNil (c : Conf) (h : Int) (b3 v3 b5 v5 : Nat) (H : VHeap) (base : Nat) (h3 : hg H b3 = ⟨v3, 0, true, [eK c]⟩) (h5 : hg H b5 = ⟨v5, 0, true, [[dI h]]⟩) (hbase : H.length ≤ base) :
    F PP shF 151 [.lit (.slice none 0 0), .fn 152 [.mp b3 v3 0 0, .mp b5 v5 0 0]] H base = some (.lit (.slice none 0 0), H) := by
  rw [F_fun PP151 rfl ⟨by simp [ir151], by simpa using hbase⟩]
  have hI : FV PP shF 156 [.sl [], .fn 152 [.rp (eK c), .rp [dI h]]] = some (dI (-1)) := by
    refine FV_ok (F_ok PP156 rfl ⟨by simp [ir156], by simp⟩ ?_)
    simp -implicitDefEqProofs only [go_sem, ↓reduceIte, Nat.reduceEqDiff, Nat.reduceAdd, Nat.reduceSub, Nat.reduceMul, Nat.reduceLeDiff, Nat.reduceLT, Nat.reduceBEq, Nat.reduceBNe, reduceCtorEq, beq_self_eq_true, Int.toNat_natCast, List.length_map, List.length_nil, Int.reduceToNat, Int.reduceAdd, Int.reduceSub, Int.reduceMul, Int.reduceLT, Int.reduceLE, Int.reduceEq, Int.reduceBEq, Int.reduceNeg, decide_true, decide_false, Nat.le_max_left, Nat.le_max_right, ne_eq, not_true_eq_false, not_false_eq_true, Int.natCast_zero, gt_iff_lt, ge_iff_le, Int.reduceGT, Int.reduceGE, Bool.false_and, Bool.and_false, Bool.true_and, Bool.and_true, ir156]
    rw [R_loop]
    simp -implicitDefEqProofs only [go_sem, ↓reduceIte, Nat.reduceEqDiff, Nat.reduceAdd, Nat.reduceSub, Nat.reduceMul, Nat.reduceLeDiff, Nat.reduceLT, Nat.reduceBEq, Nat.reduceBNe, reduceCtorEq, beq_self_eq_true, Int.toNat_natCast, List.length_map, List.length_nil, Int.reduceToNat, Int.reduceAdd, Int.reduceSub, Int.reduceMul, Int.reduceLT, Int.reduceLE, Int.reduceEq, Int.reduceBEq, Int.reduceNeg, decide_true, decide_false, Nat.le_max_left, Nat.le_max_right, ne_eq, not_true_eq_false, not_false_eq_true, Int.natCast_zero, gt_iff_lt, ge_iff_le, Int.reduceGT, Int.reduceGE, Bool.false_and, Bool.and_false, Bool.true_and, Bool.and_true, ir156_l0]
  simp -implicitDefEqProofs only [go_sem, ↓reduceIte, Nat.reduceEqDiff, Nat.reduceAdd, Nat.reduceSub, Nat.reduceMul, Nat.reduceLeDiff, Nat.reduceLT, Nat.reduceBEq, Nat.reduceBNe, reduceCtorEq, beq_self_eq_true, Int.toNat_natCast, List.length_map, List.length_nil, Int.reduceToNat, Int.reduceAdd, Int.reduceSub, Int.reduceMul, Int.reduceLT, Int.reduceLE, Int.reduceEq, Int.reduceBEq, Int.reduceNeg, decide_true, decide_false, Nat.le_max_left, Nat.le_max_right, ne_eq, not_true_eq_false, not_false_eq_true, Int.natCast_zero, gt_iff_lt, ge_iff_le, Int.reduceGT, Int.reduceGE, Bool.false_and, Bool.and_false, Bool.true_and, Bool.and_true, ir151, h3, h5, vpS hI rfl]
theorem frz_pref {H : VHeap} {b ver n c : Nat} {m r : List Int} (hb : hg H b = ⟨ver, 1, true, (m ++ r).map eI⟩) (hn : m.length = n) (hc : n ≤ c) (k : Nat) : frzD H (k + 1) (.ms b ver 0 n c) = some (.sl (m.map eI)) ∧ freshD H (k + 2) (.ms b ver 0 n c) = true := by
  have ht : List.take n ((m ++ r).map eI) = m.map eI := by rw [List.map_append, List.take_append_of_le_length (by simp; omega), List.take_of_length_le (by simp; omega)]
  have hl : n ≤ (m ++ r).length := by simp; omega
  constructor
  · rw [frz_ms, hb]
    simp only [VB.part, ne_eq, Nat.zero_add, List.length_map, hl, hc, and_self, ↓reduceIte, List.drop_zero, ht, Option.bind_some, closed_eI, Nat.reduceEqDiff, not_false_eq_true, reduceCtorEq, Nat.one_ne_zero]
  · have hc := lits_eI m
    simp only [freshD, hb, VB.part, ne_eq, Nat.zero_add, List.length_map, hl, and_self, ↓reduceIte, List.drop_zero, ht, Nat.one_ne_zero, not_false_eq_true]
    rw [List.all_eq_true] at hc ⊢
    intro el hel
    have := hc el hel
    rw [List.all_eq_true] at this ⊢
    exact fun d hd => fresh_of_lit1 (this d hd)
theorem FVF_Standbys (c : Conf) (hc : ConfOk c) (t h : Int) : FVF PP shF 144 [.agg (eK c), dI t, dI h] (dL (sel c.cells.length (P53 c t h))) := by
  have hf : (sel c.cells.length (P52 c t)).filter (fun x => apartB c x h) = sel c.cells.length (P53 c t h) := by
    unfold sel
    rw [List.filter_map, List.filter_filter]
    congr 1
    apply List.filter_congr
    intro x _
    simp only [Function.comp, P53, P52, apartB_symm c h]
    exact Bool.and_comm _ _
  refine FVF_ok (F_ok PP144 rfl ⟨by simp [ir144], by simp⟩ ?_)
  have hl := sel_len c.cells.length (P52 c t)
  have hn := hc.lens.c
  have lh := lits_eI (sel c.cells.length (P52 c t))
  by_cases hz : sel c.cells.length (P52 c t) = []
  · rw [hz] at hf
    have U := vpU (OkF_Homes c t hc) lh
    simp only [hz, List.map_nil, ↓reduceIte] at U
    rw [← hf, List.filter_nil]
    have D := F_DeleteNil c h
    simp -implicitDefEqProofs only [go_sem, ↓reduceIte, Nat.reduceEqDiff, Nat.reduceAdd, Nat.reduceSub, Nat.reduceMul, Nat.reduceLeDiff, Nat.reduceLT, Nat.reduceBEq, Nat.reduceBNe, reduceCtorEq, beq_self_eq_true, Int.toNat_natCast, List.length_map, List.length_nil, Int.reduceToNat, Int.reduceAdd, Int.reduceSub, Int.reduceMul, Int.reduceLT, Int.reduceLE, Int.reduceEq, Int.reduceBEq, Int.reduceNeg, decide_true, decide_false, Nat.le_max_left, Nat.le_max_right, ne_eq, not_true_eq_false, not_false_eq_true, Int.natCast_zero, gt_iff_lt, ge_iff_le, Int.reduceGT, Int.reduceGE, Bool.false_and, Bool.and_false, Bool.true_and, Bool.and_true, ir144, eK, U, D]
    exact ⟨rfl, rfl⟩
  · have U := vpU (OkF_Homes c t hc) lh
    have hz' : ¬ (sel c.cells.length (P52 c t)).map eI = [] := by simpa using hz
    simp only [hz', ↓reduceIte] at U
    have D := fun b ver b3 v3 b5 v5 h1 h2 => F_DeleteFunc c hc h b ver b3 v3 b5 v5 h1 h2 (sel c.cells.length (P52 c t)) (by omega)
    rw [hf] at D
    have ll : (sel c.cells.length (P53 c t h)).length ≤ (sel c.cells.length (P52 c t)).length := by rw [← hf]; exact List.length_filter_le _ _
    have tk : List.take (sel c.cells.length (P53 c t h)).length (List.map eI (sel c.cells.length (P53 c t h) ++ List.replicate ((sel c.cells.length (P52 c t)).length - (sel c.cells.length (P53 c t h)).length) 0)) = List.map eI (sel c.cells.length (P53 c t h)) := by
      rw [List.map_append, List.take_append_of_le_length (by simp), List.take_of_length_le (by simp)]
    have l2 : (sel c.cells.length (P53 c t h)).length ≤ (sel c.cells.length (P53 c t h) ++ List.replicate ((sel c.cells.length (P52 c t)).length - (sel c.cells.length (P53 c t h)).length) 0).length := by simp
    have cl := closed_eI (sel c.cells.length (P53 c t h))
    simp -implicitDefEqProofs only [go_sem, ↓reduceIte, Nat.reduceEqDiff, Nat.reduceAdd, Nat.reduceSub, Nat.reduceMul, Nat.reduceLeDiff, Nat.reduceLT, Nat.reduceBEq, Nat.reduceBNe, reduceCtorEq, beq_self_eq_true, Int.toNat_natCast, List.length_map, List.length_nil, Int.reduceToNat, Int.reduceAdd, Int.reduceSub, Int.reduceMul, Int.reduceLT, Int.reduceLE, Int.reduceEq, Int.reduceBEq, Int.reduceNeg, decide_true, decide_false, Nat.le_max_left, Nat.le_max_right, ne_eq, not_true_eq_false, not_false_eq_true, Int.natCast_zero, gt_iff_lt, ge_iff_le, Int.reduceGT, Int.reduceGE, Bool.false_and, Bool.and_false, Bool.true_and, Bool.and_true, ir144, eK, U, D, ll, tk, l2, cl]
    exact (frz_pref (r := List.replicate ((sel c.cells.length (P52 c t)).length - (sel c.cells.length (P53 c t h)).length) 0) (by simp -implicitDefEqProofs only [go_sem, ↓reduceIte, Nat.reduceEqDiff, Nat.reduceAdd, Nat.reduceSub, Nat.reduceMul, Nat.reduceLeDiff, Nat.reduceLT, Nat.reduceBEq, Nat.reduceBNe, reduceCtorEq, beq_self_eq_true, Int.toNat_natCast, List.length_map, List.length_nil, Int.reduceToNat, Int.reduceAdd, Int.reduceSub, Int.reduceMul, Int.reduceLT, Int.reduceLE, Int.reduceEq, Int.reduceBEq, Int.reduceNeg, decide_true, decide_false, Nat.le_max_left, Nat.le_max_right, ne_eq, not_true_eq_false, not_false_eq_true, Int.natCast_zero, gt_iff_lt, ge_iff_le, Int.reduceGT, Int.reduceGE, Bool.false_and, Bool.and_false, Bool.true_and, Bool.and_true, ]) rfl ll 4).2
theorem FV_run (k : Nat) {g : Nat} (h : (vmach PP shF k g [] [] 0).map (·.1) = some (dB true)) : FV PP shF g [] = some (dB true) := by
  simp only [Option.map_eq_some_iff] at h
  obtain ⟨⟨d, H⟩, h1, h2⟩ := h
  simp only at h2; subst h2
  exact FV_B (F_of k h1)
theorem FV_awake05 : FV PP shF 138 [] = some (dB true) := FV_run 60 (by kernel_rfl)
def L137 (c : Conf) (t a b : Int) (x : List Int) (k : Nat) (w : VSt) : Prop := gt .bad w.E 1 = dI t ∧ gt .bad w.E 2 = dI a ∧ gt .bad w.E 3 = dI b ∧ gt .bad w.E 9 = .mp 9 1 0 0 ∧ hg w.H 9 = ⟨1, 0, true, [eK c]⟩ ∧ gt .bad w.E 10 = dL x ∧ gt .bad w.E 11 = dI (k : Nat) ∧ k ≤ x.length
theorem sel_lt (n : Nat) (p : Int → Bool) : (sel n p).Pairwise (fun a b => a < b) := by
  induction n with
  | zero => exact List.Pairwise.nil
  | succ n ih =>
    rw [sel_succ]
    rw [List.pairwise_append]
    refine ⟨ih, by split <;> simp, fun a ha b hb => ?_⟩
    have h1 := (mem_sel.1 ha).2.1
    split at hb
    · simp at hb; omega
    · simp at hb
theorem apart_l0 (c : Conf) (hc : ConfOk c) (t a b : Int) (x : List Int) (hl : x.length ≤ 1000) (hx : ∀ y, y ∈ x → mayB c t y = true ∧ apartB c a y = true) (hp : x.Pairwise (fun a b => a < b)) : ∀ k w, L137 c t a b x k w → Ok (R PP shF 0 113 (.loop ir137_l0) w) (fun e w => e = .exit 0 ∧ L137 c t a b x x.length w) := by
  refine Ok_up x.length (L137 c t a b x) fun k w hI => ?_
  obtain ⟨E, H⟩ := w
  obtain ⟨e1, e2, e3, e9, h9, e10, e11, hk⟩ := hI
  simp only at e1 e2 e3 e9 h9 e10 e11
  have w1 : IntKind.wrap .i64 ((k : Int) + 1) = ((k + 1 : Nat) : Int) := by rw [w64 (by omega) (by omega)]; rfl
  by_cases hlt : k < x.length
  · have d1 : decide ((k : Int) < (x.length : Int)) = true := by simp; omega
    have q0 : (0 : Int) ≤ (k : Int) := by omega
    have q1 : (k : Int) < (x.length : Int) := by omega
    have g1 := getD_at (l := x) (i := k) (d := 0) hlt
    have hy := hx _ (List.mem_of_getElem? g1)
    have M1 := FV_MayAll c hc t (x.getD k 0)
    have A1 := FV_Apart c hc a (x.getD k 0)
    rw [hy.1] at M1
    rw [hy.2] at A1
    by_cases hz : k = 0
    · have z0 : decide ((0 : Int) < (k : Int)) = false := by simp; omega
      simp -implicitDefEqProofs only [go_sem, ↓reduceIte, Nat.reduceEqDiff, Nat.reduceAdd, Nat.reduceSub, Nat.reduceMul, Nat.reduceLeDiff, Nat.reduceLT, Nat.reduceBEq, Nat.reduceBNe, reduceCtorEq, beq_self_eq_true, Int.toNat_natCast, List.length_map, List.length_nil, Int.reduceToNat, Int.reduceAdd, Int.reduceSub, Int.reduceMul, Int.reduceLT, Int.reduceLE, Int.reduceEq, Int.reduceBEq, Int.reduceNeg, decide_true, decide_false, Nat.le_max_left, Nat.le_max_right, ne_eq, not_true_eq_false, not_false_eq_true, Int.natCast_zero, gt_iff_lt, ge_iff_le, Int.reduceGT, Int.reduceGE, Bool.false_and, Bool.and_false, Bool.true_and, Bool.and_true, ir137_l0, eK, e1, e2, e3, e9, h9, e10, e11, d1, q0, q1, g1, w1, vpS M1 rfl, vpS A1 rfl, z0]
      refine .next hlt ⟨?_, ?_, ?_, ?_, ?_, ?_, ?_, by omega⟩ <;> simp -implicitDefEqProofs only [go_sem, ↓reduceIte, Nat.reduceEqDiff, Nat.reduceAdd, Nat.reduceSub, Nat.reduceMul, Nat.reduceLeDiff, Nat.reduceLT, Nat.reduceBEq, Nat.reduceBNe, reduceCtorEq, beq_self_eq_true, Int.toNat_natCast, List.length_map, List.length_nil, Int.reduceToNat, Int.reduceAdd, Int.reduceSub, Int.reduceMul, Int.reduceLT, Int.reduceLE, Int.reduceEq, Int.reduceBEq, Int.reduceNeg, decide_true, decide_false, Nat.le_max_left, Nat.le_max_right, ne_eq, not_true_eq_false, not_false_eq_true, Int.natCast_zero, gt_iff_lt, ge_iff_le, Int.reduceGT, Int.reduceGE, Bool.false_and, Bool.and_false, Bool.true_and, Bool.and_true, e1, e2, e3, e9, h9, e10, w1, eK]
    · obtain ⟨j, rfl⟩ : ∃ j, k = j + 1 := ⟨k - 1, by omega⟩
      have z1 : decide ((0 : Int) < ((j + 1 : Nat) : Int)) = true := decide_eq_true (by omega)
      have wk : IntKind.wrap .i64 (((j + 1 : Nat) : Int) - 1) = (j : Int) := by rw [w64 (by omega) (by omega)]; omega
      have r0 : (0 : Int) ≤ (j : Int) := by omega
      have r1 : (j : Int) < (x.length : Int) := by omega
      have g0 := getD_at (l := x) (i := j) (d := 0) (by omega)
      have hlt2 : x.getD j 0 < x.getD (j + 1) 0 := by
        have p1 := List.pairwise_iff_getElem.1 hp j (j + 1) (by omega) hlt (by omega)
        have ej : x.getD j 0 = x[j] := by rw [List.getD_eq_getElem?_getD, List.getElem?_eq_getElem (by omega)]; rfl
        have ek : x.getD (j + 1) 0 = x[j + 1] := by rw [List.getD_eq_getElem?_getD, List.getElem?_eq_getElem (by omega)]; rfl
        rw [ej, ek]; exact p1
      have z2 : decide (x.getD (j + 1) 0 ≤ x.getD j 0) = false := decide_eq_false (by omega)
      simp -implicitDefEqProofs only [go_sem, ↓reduceIte, Nat.reduceEqDiff, Nat.reduceAdd, Nat.reduceSub, Nat.reduceMul, Nat.reduceLeDiff, Nat.reduceLT, Nat.reduceBEq, Nat.reduceBNe, reduceCtorEq, beq_self_eq_true, Int.toNat_natCast, List.length_map, List.length_nil, Int.reduceToNat, Int.reduceAdd, Int.reduceSub, Int.reduceMul, Int.reduceLT, Int.reduceLE, Int.reduceEq, Int.reduceBEq, Int.reduceNeg, decide_true, decide_false, Nat.le_max_left, Nat.le_max_right, ne_eq, not_true_eq_false, not_false_eq_true, Int.natCast_zero, gt_iff_lt, ge_iff_le, Int.reduceGT, Int.reduceGE, Bool.false_and, Bool.and_false, Bool.true_and, Bool.and_true, ir137_l0, eK, e1, e2, e3, e9, h9, e10, e11, d1, q0, q1, g1, w1, vpS M1 rfl, vpS A1 rfl, z1, wk, r0, r1, g0, z2]
      refine .next hlt ⟨?_, ?_, ?_, ?_, ?_, ?_, ?_, by omega⟩ <;> simp -implicitDefEqProofs only [go_sem, ↓reduceIte, Nat.reduceEqDiff, Nat.reduceAdd, Nat.reduceSub, Nat.reduceMul, Nat.reduceLeDiff, Nat.reduceLT, Nat.reduceBEq, Nat.reduceBNe, reduceCtorEq, beq_self_eq_true, Int.toNat_natCast, List.length_map, List.length_nil, Int.reduceToNat, Int.reduceAdd, Int.reduceSub, Int.reduceMul, Int.reduceLT, Int.reduceLE, Int.reduceEq, Int.reduceBEq, Int.reduceNeg, decide_true, decide_false, Nat.le_max_left, Nat.le_max_right, ne_eq, not_true_eq_false, not_false_eq_true, Int.natCast_zero, gt_iff_lt, ge_iff_le, Int.reduceGT, Int.reduceGE, Bool.false_and, Bool.and_false, Bool.true_and, Bool.and_true, e1, e2, e3, e9, h9, e10, w1, eK]
  · have hkx : k = x.length := by omega
    subst hkx
    have d1 : decide ((x.length : Int) < (x.length : Int)) = false := by simp
    simp -implicitDefEqProofs only [go_sem, ↓reduceIte, Nat.reduceEqDiff, Nat.reduceAdd, Nat.reduceSub, Nat.reduceMul, Nat.reduceLeDiff, Nat.reduceLT, Nat.reduceBEq, Nat.reduceBNe, reduceCtorEq, beq_self_eq_true, Int.toNat_natCast, List.length_map, List.length_nil, Int.reduceToNat, Int.reduceAdd, Int.reduceSub, Int.reduceMul, Int.reduceLT, Int.reduceLE, Int.reduceEq, Int.reduceBEq, Int.reduceNeg, decide_true, decide_false, Nat.le_max_left, Nat.le_max_right, ne_eq, not_true_eq_false, not_false_eq_true, Int.natCast_zero, gt_iff_lt, ge_iff_le, Int.reduceGT, Int.reduceGE, Bool.false_and, Bool.and_false, Bool.true_and, Bool.and_true, ir137_l0, e10, e11, d1]
    refine .exit ⟨rfl, ?_, ?_, ?_, ?_, h9, ?_, ?_, Nat.le_refl _⟩ <;> simp -implicitDefEqProofs only [go_sem, ↓reduceIte, Nat.reduceEqDiff, Nat.reduceAdd, Nat.reduceSub, Nat.reduceMul, Nat.reduceLeDiff, Nat.reduceLT, Nat.reduceBEq, Nat.reduceBNe, reduceCtorEq, beq_self_eq_true, Int.toNat_natCast, List.length_map, List.length_nil, Int.reduceToNat, Int.reduceAdd, Int.reduceSub, Int.reduceMul, Int.reduceLT, Int.reduceLE, Int.reduceEq, Int.reduceBEq, Int.reduceNeg, decide_true, decide_false, Nat.le_max_left, Nat.le_max_right, ne_eq, not_true_eq_false, not_false_eq_true, Int.natCast_zero, gt_iff_lt, ge_iff_le, Int.reduceGT, Int.reduceGE, Bool.false_and, Bool.and_false, Bool.true_and, Bool.and_true, e1, e2, e3, e9, e10, e11]
theorem law_TenantApart (l : List Int) (hl : I64s l) (t : Int) (h1 : I64 t) (a : Int) (h2 : I64 a) (b : Int) (h3 : I64 b) : OkF (F PP shF 137 [dL l, dI t, dI a, dI b] [] 0) (fun d _ => d = dB true) := by
  refine F_ok PP137 rfl ⟨by simp [ir137], by simp⟩ ?_
  by_cases hlen : l.length ≤ 200
  · have L := FV_Light l
    rw [decide_eq_true hlen] at L
    obtain ⟨c, hc, hF⟩ := FV_Config l hl
    have B1 := FV_Between t (-1) 5 h1 (by omega) (by omega) (by omega)
    have B2 := FV_Between a (-1) 8 h2 (by omega) (by omega) (by omega)
    have B3 := FV_Between b (-1) 8 h3 (by omega) (by omega) (by omega)
    generalize -1 + t % (5 - -1 + 1) = t' at B1
    generalize -1 + a % (8 - -1 + 1) = a' at B2
    generalize -1 + b % (8 - -1 + 1) = b' at B3
    have S1 := FVF_Standbys c hc t' a'
    have hn := hc.lens.c
    have hl2 := sel_len c.cells.length (P53 c t' a')
    have key := apart_l0 c hc t' a' b' (sel c.cells.length (P53 c t' a')) (by omega) (fun y hy => by have := (mem_sel.1 hy).2.2; simpa [P53] using this) (sel_lt _ _) 0
    generalize sel c.cells.length (P53 c t' a') = x at *
    simp -implicitDefEqProofs only [go_sem, ↓reduceIte, Nat.reduceEqDiff, Nat.reduceAdd, Nat.reduceSub, Nat.reduceMul, Nat.reduceLeDiff, Nat.reduceLT, Nat.reduceBEq, Nat.reduceBNe, reduceCtorEq, beq_self_eq_true, Int.toNat_natCast, List.length_map, List.length_nil, Int.reduceToNat, Int.reduceAdd, Int.reduceSub, Int.reduceMul, Int.reduceLT, Int.reduceLE, Int.reduceEq, Int.reduceBEq, Int.reduceNeg, decide_true, decide_false, Nat.le_max_left, Nat.le_max_right, ne_eq, not_true_eq_false, not_false_eq_true, Int.natCast_zero, gt_iff_lt, ge_iff_le, Int.reduceGT, Int.reduceGE, Bool.false_and, Bool.and_false, Bool.true_and, Bool.and_true, ir137, vpS L rfl, vpL hF rfl, eK, vpS B1 rfl, vpS B2 rfl, vpS B3 rfl, vpF S1 rfl]
    refine (key _ ⟨?_, ?_, ?_, ?_, ?_, ?_, ?_, by omega⟩).mono ?_ <;> (try simp -implicitDefEqProofs only [go_sem, ↓reduceIte, Nat.reduceEqDiff, Nat.reduceAdd, Nat.reduceSub, Nat.reduceMul, Nat.reduceLeDiff, Nat.reduceLT, Nat.reduceBEq, Nat.reduceBNe, reduceCtorEq, beq_self_eq_true, Int.toNat_natCast, List.length_map, List.length_nil, Int.reduceToNat, Int.reduceAdd, Int.reduceSub, Int.reduceMul, Int.reduceLT, Int.reduceLE, Int.reduceEq, Int.reduceBEq, Int.reduceNeg, decide_true, decide_false, Nat.le_max_left, Nat.le_max_right, ne_eq, not_true_eq_false, not_false_eq_true, Int.natCast_zero, gt_iff_lt, ge_iff_le, Int.reduceGT, Int.reduceGE, Bool.false_and, Bool.and_false, Bool.true_and, Bool.and_true, eK])
    rintro e ⟨E, H⟩ ⟨rfl, e1, e2, e3, e9, h9, e10, e11, _⟩
    simp only at e1 e2 e3 e9 h9 e10 e11
    have A1 := FV_Apart c hc a' b'
    have A2 := FV_Apart c hc b' a'
    have A3 := FV_Apart c hc a' a'
    have R1 := FV_RegionOf c hc.lens a'
    have R2 := FV_RegionOf c hc.lens b'
    rw [← apartB_symm] at A2
    have a3 : apartB c a' a' = false := by unfold apartB; simp
    rw [a3] at A3
    have n1 : ∀ x : Bool, (x == x) = true := fun x => by simp
    by_cases r1 : 0 ≤ regOf c a'
    · have r1' : decide (0 ≤ regOf c a') = true := by simpa using r1
      by_cases r2 : 0 ≤ regOf c b'
      · have r2' : decide (0 ≤ regOf c b') = true := by simpa using r2
        have ha : apartB c a' b' = (regOf c a' != regOf c b') := by unfold apartB; simp [r1, r2]
        rw [ha] at A1 A2
        simp -implicitDefEqProofs only [go_sem, ↓reduceIte, Nat.reduceEqDiff, Nat.reduceAdd, Nat.reduceSub, Nat.reduceMul, Nat.reduceLeDiff, Nat.reduceLT, Nat.reduceBEq, Nat.reduceBNe, reduceCtorEq, beq_self_eq_true, Int.toNat_natCast, List.length_map, List.length_nil, Int.reduceToNat, Int.reduceAdd, Int.reduceSub, Int.reduceMul, Int.reduceLT, Int.reduceLE, Int.reduceEq, Int.reduceBEq, Int.reduceNeg, decide_true, decide_false, Nat.le_max_left, Nat.le_max_right, ne_eq, not_true_eq_false, not_false_eq_true, Int.natCast_zero, gt_iff_lt, ge_iff_le, Int.reduceGT, Int.reduceGE, Bool.false_and, Bool.and_false, Bool.true_and, Bool.and_true, e1, e2, e3, e9, h9, e10, e11, eK, vpS FV_awake05 rfl, vpS A1 rfl, vpS A2 rfl, vpS A3 rfl, vpS R1 rfl, vpS R2 rfl, n1, r1', r2']
      · have r2' : decide (0 ≤ regOf c b') = false := by simpa using r2
        have ha : apartB c a' b' = false := by unfold apartB; rw [r2']; simp
        rw [ha] at A1 A2
        simp -implicitDefEqProofs only [go_sem, ↓reduceIte, Nat.reduceEqDiff, Nat.reduceAdd, Nat.reduceSub, Nat.reduceMul, Nat.reduceLeDiff, Nat.reduceLT, Nat.reduceBEq, Nat.reduceBNe, reduceCtorEq, beq_self_eq_true, Int.toNat_natCast, List.length_map, List.length_nil, Int.reduceToNat, Int.reduceAdd, Int.reduceSub, Int.reduceMul, Int.reduceLT, Int.reduceLE, Int.reduceEq, Int.reduceBEq, Int.reduceNeg, decide_true, decide_false, Nat.le_max_left, Nat.le_max_right, ne_eq, not_true_eq_false, not_false_eq_true, Int.natCast_zero, gt_iff_lt, ge_iff_le, Int.reduceGT, Int.reduceGE, Bool.false_and, Bool.and_false, Bool.true_and, Bool.and_true, e1, e2, e3, e9, h9, e10, e11, eK, vpS FV_awake05 rfl, vpS A1 rfl, vpS A2 rfl, vpS A3 rfl, vpS R1 rfl, vpS R2 rfl, n1, r1', r2']
    · have r1' : decide (0 ≤ regOf c a') = false := by simpa using r1
      have ha : apartB c a' b' = false := by unfold apartB; rw [r1']; simp
      rw [ha] at A1 A2
      simp -implicitDefEqProofs only [go_sem, ↓reduceIte, Nat.reduceEqDiff, Nat.reduceAdd, Nat.reduceSub, Nat.reduceMul, Nat.reduceLeDiff, Nat.reduceLT, Nat.reduceBEq, Nat.reduceBNe, reduceCtorEq, beq_self_eq_true, Int.toNat_natCast, List.length_map, List.length_nil, Int.reduceToNat, Int.reduceAdd, Int.reduceSub, Int.reduceMul, Int.reduceLT, Int.reduceLE, Int.reduceEq, Int.reduceBEq, Int.reduceNeg, decide_true, decide_false, Nat.le_max_left, Nat.le_max_right, ne_eq, not_true_eq_false, not_false_eq_true, Int.natCast_zero, gt_iff_lt, ge_iff_le, Int.reduceGT, Int.reduceGE, Bool.false_and, Bool.and_false, Bool.true_and, Bool.and_true, e1, e2, e3, e9, h9, e10, e11, eK, vpS FV_awake05 rfl, vpS A1 rfl, vpS A2 rfl, vpS A3 rfl, vpS R1 rfl, vpS R2 rfl, n1, r1']
  · have L := FV_Light l
    rw [decide_eq_false hlen] at L
    simp -implicitDefEqProofs only [go_sem, ↓reduceIte, Nat.reduceEqDiff, Nat.reduceAdd, Nat.reduceSub, Nat.reduceMul, Nat.reduceLeDiff, Nat.reduceLT, Nat.reduceBEq, Nat.reduceBNe, reduceCtorEq, beq_self_eq_true, Int.toNat_natCast, List.length_map, List.length_nil, Int.reduceToNat, Int.reduceAdd, Int.reduceSub, Int.reduceMul, Int.reduceLT, Int.reduceLE, Int.reduceEq, Int.reduceBEq, Int.reduceNeg, decide_true, decide_false, Nat.le_max_left, Nat.le_max_right, ne_eq, not_true_eq_false, not_false_eq_true, Int.natCast_zero, gt_iff_lt, ge_iff_le, Int.reduceGT, Int.reduceGE, Bool.false_and, Bool.and_false, Bool.true_and, Bool.and_true, ir137, vpS L rfl, vpS FV_awake05 rfl]
end Go.Proofs.Cp
