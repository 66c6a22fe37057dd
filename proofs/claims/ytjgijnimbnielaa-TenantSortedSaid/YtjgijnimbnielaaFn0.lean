/- What the functions answer (part 0). -/
import Derived.Test.YtjgijnimbnielaaPP
set_option linter.unusedSimpArgs false
set_option linter.unusedVariables false
set_option maxRecDepth 100000
namespace Go.Proofs.Cp
open Go
theorem FV_of {P : Prog} {sh : Nat → Bool} {g : Nat} {args : List DV} {d e : DV} {H : VHeap} (h : F P sh g args [] 0 = some (d, H)) (hd : frzD H 6 d = some e) : FV P sh g args = some e := by
  unfold FV; rw [h]; exact hd
theorem FV_I {P : Prog} {sh : Nat → Bool} {g : Nat} {args : List DV} {n : Int} {H : VHeap} (h : F P sh g args [] 0 = some (dI n, H)) : FV P sh g args = some (dI n) := FV_of h rfl
theorem FV_B {P : Prog} {sh : Nat → Bool} {g : Nat} {args : List DV} {b : Bool} {H : VHeap} (h : F P sh g args [] 0 = some (dB b, H)) : FV P sh g args = some (dB b) := FV_of h rfl
theorem hs_self {H : VHeap} {b : Nat} (hb : b < H.length) : hs H b (hg H b) = H := by
  apply VHeap.ext'
  · rw [hs_len]; omega
  · intro c
    rw [hg_hs]; split
    · rename_i h; rw [h]
    · rfl
theorem hs_hs (H : VHeap) (b : Nat) (x y : VB) : hs (hs H b x) b y = hs H b y := by
  apply VHeap.ext'
  · rw [hs_len, hs_len, hs_len]; omega
  · intro c
    rw [hg_hs, hg_hs, hg_hs]; split <;> rfl
theorem hg_lt {H : VHeap} {b : Nat} (h : (hg H b).live = true) : b < H.length := by
  rcases Nat.lt_or_ge b H.length with h1 | h1
  · exact h1
  · rw [hg_ge H h1] at h; cases h
/-- A whole number of 64 bits. -/
def I64 (x : Int) : Prop := -9223372036854775808 ≤ x ∧ x ≤ 9223372036854775807
def I64s (l : List Int) : Prop := ∀ x, x ∈ l → I64 x

theorem F_Mod (v n : Int) (hv : I64 v) (h3 : 0 < n) (h4 : n ≤ 4611686018427387904) : F PP shF 16 [dI v, dI n] [] 0 = some (dI (v % n), []) := by
  obtain ⟨h1, h2⟩ := hv
  rw [F_fun PP16 rfl ⟨by simp [ir16], by simp⟩]
  have hn : n ≠ 0 := by omega
  simp -implicitDefEqProofs only [go_sem, ↓reduceIte, Nat.reduceEqDiff, Nat.reduceAdd, Nat.reduceSub, Nat.reduceMul, Nat.reduceLeDiff, Nat.reduceLT, Nat.reduceBEq, Nat.reduceBNe, reduceCtorEq, beq_self_eq_true, Int.toNat_natCast, List.length_map, List.length_nil, Int.reduceToNat, Int.reduceAdd, Int.reduceSub, Int.reduceMul, Int.reduceLT, Int.reduceLE, Int.reduceEq, Int.reduceBEq, Int.reduceNeg, decide_true, decide_false, Nat.le_max_left, Nat.le_max_right, ne_eq, not_true_eq_false, not_false_eq_true, Int.natCast_zero, gt_iff_lt, ge_iff_le, Int.reduceGT, Int.reduceGE, Bool.false_and, Bool.and_false, Bool.true_and, Bool.and_true, ir16, if_neg hn]
  have hlt := Int.tmod_lt_of_pos v h3
  have hge : -n < v.tmod n := by
    have := Int.lt_tmod_of_pos v h3
    exact this
  rw [w64 (by omega) (by omega)]
  congr 4
  rcases Int.le_total 0 v with h | h
  · rw [Int.tmod_eq_emod_of_nonneg h, Int.tmod_eq_emod_of_nonneg (by have := Int.emod_nonneg v hn; omega)]
    simp
  · rw [Int.tmod_eq_emod_of_nonneg (by omega)]
    rw [Int.tmod_eq_emod]
    split
    · simp
    · have : (n.natAbs : Int) = n := by omega
      simp [this, Int.sub_add_cancel]
theorem FV_Mod (v n : Int) (hv : I64 v) (h3 : 0 < n) (h4 : n ≤ 4611686018427387904) : FV PP shF 16 [dI v, dI n] = some (dI (v % n)) := FV_of (F_Mod v n hv h3 h4) rfl
theorem FV_Between (v low high : Int) (hv : I64 v) (h0 : -1000000000 ≤ low) (h1 : low ≤ high) (h2 : high ≤ 1000000000) : FV PP shF 15 [dI v, dI low, dI high] = some (dI (low + v % (high - low + 1))) := by
  refine FV_I (H := []) ?_
  rw [F_fun PP15 rfl ⟨by simp [ir15], by simp⟩]
  have e1 : IntKind.wrap .i64 (high - low) = high - low := w64 (by omega) (by omega)
  have e2 : IntKind.wrap .i64 (high - low + 1) = high - low + 1 := w64 (by omega) (by omega)
  have hm := Int.emod_lt_of_pos v (show 0 < high - low + 1 by omega)
  have hm0 := Int.emod_nonneg v (show high - low + 1 ≠ 0 by omega)
  have e3 : IntKind.wrap .i64 (low + v % (high - low + 1)) = low + v % (high - low + 1) := w64 (by omega) (by omega)
  simp -implicitDefEqProofs only [go_sem, ↓reduceIte, Nat.reduceEqDiff, Nat.reduceAdd, Nat.reduceSub, Nat.reduceMul, Nat.reduceLeDiff, Nat.reduceLT, Nat.reduceBEq, Nat.reduceBNe, reduceCtorEq, beq_self_eq_true, Int.toNat_natCast, List.length_map, List.length_nil, Int.reduceToNat, Int.reduceAdd, Int.reduceSub, Int.reduceMul, Int.reduceLT, Int.reduceLE, Int.reduceEq, Int.reduceBEq, Int.reduceNeg, decide_true, decide_false, Nat.le_max_left, Nat.le_max_right, ne_eq, not_true_eq_false, not_false_eq_true, Int.natCast_zero, gt_iff_lt, ge_iff_le, Int.reduceGT, Int.reduceGE, Bool.false_and, Bool.and_false, Bool.true_and, Bool.and_true, ir15, e1, e2, vpS (FV_Mod _ _ hv (show 0 < high - low + 1 by omega) (by omega)) rfl, e3]
theorem FV_Light (l : List Int) : FV PP shF 11 [dL l] = some (dB (decide (l.length ≤ 200))) := by
  refine FV_B (H := []) ?_
  rw [F_fun PP11 rfl ⟨by simp [ir11], by simp⟩]
  simp only [ir11, go_sem, ↓reduceIte, Nat.reduceEqDiff, reduceCtorEq, List.length_map]
  simp
  omega

/-- A tape. -/
abbrev tapeB (ver : Nat) (L : List Int) (i : Nat) : VB := ⟨ver, 0, true, [[dL L, dI (i : Nat)]]⟩
theorem Next_ex (L : List Int) (i : Nat) (n : Int) (hL : I64s L) (hi : i < 1000000000) (h0 : 0 < n) (hn : n ≤ 1073741824) :
    ∃ (v : Int) (i' : Nat), 0 ≤ v ∧ v < n ∧ i ≤ i' ∧ i' ≤ i + 1 ∧ ∀ (H : VHeap) (b ver base : Nat), hg H b = tapeB ver L i → H.length ≤ base →
      F PP shF 50 [.mp b ver 0 0, dI n] H base = some (dI v, hs H b (tapeB ver L i')) := by
  by_cases hL0 : L = []
  · subst hL0
    refine ⟨0, i, by omega, h0, by omega, by omega, fun H b ver base hb hbase => ?_⟩
    have hself : hs H b (tapeB ver [] i) = H := by rw [← hb]; exact hs_self (hg_lt (by rw [hb]))
    rw [F_fun PP50 rfl ⟨by simp [ir50], by simpa using hbase⟩, hself]
    simp -implicitDefEqProofs only [go_sem, ↓reduceIte, Nat.reduceEqDiff, Nat.reduceAdd, Nat.reduceSub, Nat.reduceMul, Nat.reduceLeDiff, Nat.reduceLT, Nat.reduceBEq, Nat.reduceBNe, reduceCtorEq, beq_self_eq_true, Int.toNat_natCast, List.length_map, List.length_nil, Int.reduceToNat, Int.reduceAdd, Int.reduceSub, Int.reduceMul, Int.reduceLT, Int.reduceLE, Int.reduceEq, Int.reduceBEq, Int.reduceNeg, decide_true, decide_false, Nat.le_max_left, Nat.le_max_right, ne_eq, not_true_eq_false, not_false_eq_true, Int.natCast_zero, gt_iff_lt, ge_iff_le, Int.reduceGT, Int.reduceGE, Bool.false_and, Bool.and_false, Bool.true_and, Bool.and_true, ir50, hb, List.map_nil]
  · have hl : L.length ≠ 0 := by cases L <;> simp_all
    have e1 : ((L.length : Int) == 0) = false := by simp; exact hL0
    have e2 : ¬ (L.length : Int) = 0 := by omega
    have e3 : (i : Int).tmod L.length = ((i % L.length : Nat) : Int) := by rw [Int.tmod_eq_emod_of_nonneg (by omega)]; rfl
    have e4 : (i : Int).tdiv L.length = ((i / L.length : Nat) : Int) := by rw [Int.tdiv_eq_ediv_of_nonneg (by omega)]; rfl
    have hlt : i % L.length < L.length := Nat.mod_lt _ (by omega)
    have e5 : (0 : Int) ≤ ((i % L.length : Nat) : Int) ∧ ((i % L.length : Nat) : Int) < (L.length : Int) := by omega
    have e6 : (L.map fun z => [dI z])[i % L.length]? = some [dI (L.getD (i % L.length) 0)] := by
      rw [List.getElem?_map, List.getElem?_eq_getElem hlt]; simp [List.getD_eq_getElem?_getD, List.getElem?_eq_getElem hlt]
    have hd : i / L.length ≤ i := Nat.div_le_self _ _
    have e7 : IntKind.wrap .i64 ((i : Int) + 1) = ((i + 1 : Nat) : Int) := by rw [w64 (by omega) (by omega)]; rfl
    have hx := hL (L.getD (i % L.length) 0) (by rw [List.getD_eq_getElem?_getD, List.getElem?_eq_getElem hlt]; exact List.getElem_mem hlt)
    refine ⟨((L.getD (i % L.length) 0) % 1073741824 + ((i / L.length : Nat) : Int) * 7) % n, i + 1, Int.emod_nonneg _ (by omega), Int.emod_lt_of_pos _ h0, by omega, by omega, fun H b ver base hb hbase => ?_⟩
    rw [F_fun PP50 rfl ⟨by simp [ir50], by simpa using hbase⟩]
    generalize i / L.length = q at *
    have e10 : IntKind.wrap .i64 (q : Int) = (q : Int) := w64 (by omega) (by omega)
    have e8 : IntKind.wrap .i64 ((q : Int) * 7) = (q : Int) * 7 := w64 (by omega) (by omega)
    have hm := Int.emod_lt_of_pos (L.getD (i % L.length) 0) (show (0 : Int) < 1073741824 by omega)
    have hm0 := Int.emod_nonneg (L.getD (i % L.length) 0) (show (1073741824 : Int) ≠ 0 by omega)
    have e9 : IntKind.wrap .i64 ((L.getD (i % L.length) 0) % 1073741824 + (q : Int) * 7) = (L.getD (i % L.length) 0) % 1073741824 + (q : Int) * 7 := w64 (by omega) (by omega)
    simp -implicitDefEqProofs only [go_sem, ↓reduceIte, Nat.reduceEqDiff, Nat.reduceAdd, Nat.reduceSub, Nat.reduceMul, Nat.reduceLeDiff, Nat.reduceLT, Nat.reduceBEq, Nat.reduceBNe, reduceCtorEq, beq_self_eq_true, Int.toNat_natCast, List.length_map, List.length_nil, Int.reduceToNat, Int.reduceAdd, Int.reduceSub, Int.reduceMul, Int.reduceLT, Int.reduceLE, Int.reduceEq, Int.reduceBEq, Int.reduceNeg, decide_true, decide_false, Nat.le_max_left, Nat.le_max_right, ne_eq, not_true_eq_false, not_false_eq_true, Int.natCast_zero, gt_iff_lt, ge_iff_le, Int.reduceGT, Int.reduceGE, Bool.false_and, Bool.and_false, Bool.true_and, Bool.and_true, ir50, hb, reduceCtorEq, e1, e2, e3, e4, e5, e6, e7, e8, e9, e10, Int.toNat_natCast, List.length_map,
      vpS (FV_Mod _ _ hx (show (0 : Int) < 1073741824 by omega) (by omega)) rfl, vpS (FV_Mod ((L.getD (i % L.length) 0) % 1073741824 + (q : Int) * 7) n ⟨by omega, by omega⟩ h0 (by omega)) rfl]
theorem Range_ex (L : List Int) (i : Nat) (low high : Int) (hL : I64s L) (hi : i < 1000000000) (hl : -1000 ≤ low) (h0 : low ≤ high) (hn : high ≤ 1073740000) :
    ∃ (v : Int) (i' : Nat), low ≤ v ∧ v ≤ high ∧ i ≤ i' ∧ i' ≤ i + 1 ∧ ∀ (H : VHeap) (b ver base : Nat), hg H b = tapeB ver L i → H.length ≤ base →
      F PP shF 61 [.mp b ver 0 0, dI low, dI high] H base = some (dI v, hs H b (tapeB ver L i')) := by
  obtain ⟨v, i', h1, h2, h3, h4, h5⟩ := Next_ex L i (high - low + 1) hL hi (by omega) (by omega)
  refine ⟨low + v, i', by omega, by omega, h3, h4, fun H b ver base hb hbase => ?_⟩
  have e1 : IntKind.wrap .i64 (high - low) = high - low := w64 (by omega) (by omega)
  have e2 : IntKind.wrap .i64 (high - low + 1) = high - low + 1 := w64 (by omega) (by omega)
  have e3 : IntKind.wrap .i64 (low + v) = low + v := w64 (by omega) (by omega)
  rw [F_fun PP61 rfl ⟨by simp [ir61], by simpa using hbase⟩]
  simp -implicitDefEqProofs only [go_sem, ↓reduceIte, Nat.reduceEqDiff, Nat.reduceAdd, Nat.reduceSub, Nat.reduceMul, Nat.reduceLeDiff, Nat.reduceLT, Nat.reduceBEq, Nat.reduceBNe, reduceCtorEq, beq_self_eq_true, Int.toNat_natCast, List.length_map, List.length_nil, Int.reduceToNat, Int.reduceAdd, Int.reduceSub, Int.reduceMul, Int.reduceLT, Int.reduceLE, Int.reduceEq, Int.reduceBEq, Int.reduceNeg, decide_true, decide_false, Nat.le_max_left, Nat.le_max_right, ne_eq, not_true_eq_false, not_false_eq_true, Int.natCast_zero, gt_iff_lt, ge_iff_le, Int.reduceGT, Int.reduceGE, Bool.false_and, Bool.and_false, Bool.true_and, Bool.and_true, ir61, hb, e1, e2, h5, e3]
theorem Yes_ex (L : List Int) (i : Nat) (n : Int) (hL : I64s L) (hi : i < 1000000000) (h0 : 0 < n) (hn : n ≤ 1073741824) :
    ∃ (v : Bool) (i' : Nat), i ≤ i' ∧ i' ≤ i + 1 ∧ ∀ (H : VHeap) (b ver base : Nat), hg H b = tapeB ver L i → H.length ≤ base →
      F PP shF 62 [.mp b ver 0 0, dI n] H base = some (dB v, hs H b (tapeB ver L i')) := by
  obtain ⟨v, i', h1, h2, h3, h4, h5⟩ := Next_ex L i n hL hi h0 hn
  refine ⟨v == 0, i', h3, h4, fun H b ver base hb hbase => ?_⟩
  rw [F_fun PP62 rfl ⟨by simp [ir62], by simpa using hbase⟩]
  simp -implicitDefEqProofs only [go_sem, ↓reduceIte, Nat.reduceEqDiff, Nat.reduceAdd, Nat.reduceSub, Nat.reduceMul, Nat.reduceLeDiff, Nat.reduceLT, Nat.reduceBEq, Nat.reduceBNe, reduceCtorEq, beq_self_eq_true, Int.toNat_natCast, List.length_map, List.length_nil, Int.reduceToNat, Int.reduceAdd, Int.reduceSub, Int.reduceMul, Int.reduceLT, Int.reduceLE, Int.reduceEq, Int.reduceBEq, Int.reduceNeg, decide_true, decide_false, Nat.le_max_left, Nat.le_max_right, ne_eq, not_true_eq_false, not_false_eq_true, Int.natCast_zero, gt_iff_lt, ge_iff_le, Int.reduceGT, Int.reduceGE, Bool.false_and, Bool.and_false, Bool.true_and, Bool.and_true, ir62, hb, h5]
/-- A new tape: one block. -/
theorem F_New (L : List Int) : F PP shF 48 [dL L] [] 0 = some (.mp 5 1 0 0, hs [] 5 (tapeB 1 L 0)) := by
  rw [F_fun PP48 rfl ⟨by simp [ir48], by simp⟩]
  simp -implicitDefEqProofs only [go_sem, ↓reduceIte, Nat.reduceEqDiff, Nat.reduceAdd, Nat.reduceSub, Nat.reduceMul, Nat.reduceLeDiff, Nat.reduceLT, Nat.reduceBEq, Nat.reduceBNe, reduceCtorEq, beq_self_eq_true, Int.toNat_natCast, List.length_map, List.length_nil, Int.reduceToNat, Int.reduceAdd, Int.reduceSub, Int.reduceMul, Int.reduceLT, Int.reduceLE, Int.reduceEq, Int.reduceBEq, Int.reduceNeg, decide_true, decide_false, Nat.le_max_left, Nat.le_max_right, ne_eq, not_true_eq_false, not_false_eq_true, Int.natCast_zero, gt_iff_lt, ge_iff_le, Int.reduceGT, Int.reduceGE, Bool.false_and, Bool.and_false, Bool.true_and, Bool.and_true, ir48]
  rfl
theorem vp_New (L : List Int) (base d : Nat) (H : VHeap) : vpure PP shF base (some d) 48 true false H [dL L] = some (.mp (base + d) ((hg H (base + d)).ver + 1) 0 0, some (hs H (base + d) (tapeB ((hg H (base + d)).ver + 1) L 0))) := by
  unfold vpure
  rw [F_New]
  simp -implicitDefEqProofs only [go_sem, ↓reduceIte, Nat.reduceEqDiff, Nat.reduceAdd, Nat.reduceSub, Nat.reduceMul, Nat.reduceLeDiff, Nat.reduceLT, Nat.reduceBEq, Nat.reduceBNe, reduceCtorEq, beq_self_eq_true, Int.toNat_natCast, List.length_map, List.length_nil, Int.reduceToNat, Int.reduceAdd, Int.reduceSub, Int.reduceMul, Int.reduceLT, Int.reduceLE, Int.reduceEq, Int.reduceBEq, Int.reduceNeg, decide_true, decide_false, Nat.le_max_left, Nat.le_max_right, ne_eq, not_true_eq_false, not_false_eq_true, Int.natCast_zero, gt_iff_lt, ge_iff_le, Int.reduceGT, Int.reduceGE, Bool.false_and, Bool.and_false, Bool.true_and, Bool.and_true, vback]
  rfl
structure Cell where
  zone : Int
  cap : Int
structure Ten where
  load : Int
  shadow : Int
  prio : Int
  lag : Int
  allowed : Int
  group : Int
  noisy : Bool
structure Ver where
  low : Int
  high : Int
structure Conf where
  regions : Int
  zones : List Int
  cells : List Cell
  tens : List Ten
  vers : List Ver
  reps : List Int
  obs : List Int
  blast : Int
  lease : Int
  bake : Int
abbrev eI (z : Int) : List DV := [dI z]
abbrev eC (c : Cell) : List DV := [dI c.zone, dI c.cap]
abbrev eT (t : Ten) : List DV := [dI t.load, dI t.shadow, dI t.prio, dI t.lag, dI t.allowed, dI t.group, dB t.noisy]
abbrev eV (v : Ver) : List DV := [dI v.low, dI v.high]
abbrev eK (c : Conf) : List DV := [dI c.regions, .sl (c.zones.map eI), .sl (c.cells.map eC), .sl (c.tens.map eT), .sl (c.vers.map eV), .sl (c.reps.map eI), .sl (c.obs.map eI), dI c.blast, dI c.lease, dI c.bake]
/-- Where Config stands. -/
structure CS (L : List Int) (s : VSt) (i : Nat) (r bl le ba : Int) (zv cv tv vv rv ov : DV) : Prop where
  e2 : gt .bad s.E 2 = .mp 2 1 0 0
  e3 : gt .bad s.E 3 = .mp 15 1 0 0
  e4 : gt .bad s.E 4 = .mp 4 1 0 0
  h2 : hg s.H 2 = ⟨1, 0, true, [[dI 0, .lit (.slice none 0 0), .lit (.slice none 0 0), .lit (.slice none 0 0), .lit (.slice none 0 0), .lit (.slice none 0 0), .lit (.slice none 0 0), dI 0, dI 0, dI 0]]⟩
  h4 : hg s.H 4 = ⟨1, 0, true, [[dI r, zv, cv, tv, vv, rv, ov, dI bl, dI le, dI ba]]⟩
  h15 : hg s.H 15 = tapeB 1 L i
  hi : i < 100000
/-- The zones: k of them are made. -/
def L0 (L : List Int) (r bl le ba : Int) (k : Nat) (s : VSt) : Prop := ∃ (zs : List Int) (i : Nat) (zv : DV), CS L s i r bl le ba zv (.lit (.slice none 0 0)) (.lit (.slice none 0 0)) (.lit (.slice none 0 0)) (.lit (.slice none 0 0)) (.lit (.slice none 0 0)) ∧
  SlB s.H 49 1 (zs.map eI) zv ∧ i ≤ 10 + k ∧ gt .bad s.E 5 = dI (k : Nat) ∧ zs.length = k ∧ k ≤ 6 ∧ ∀ z, z ∈ zs → 0 ≤ z ∧ z < r
def Q0 (L : List Int) (r bl le ba : Int) (e : Ex) (s : VSt) : Prop := e = .exit 0 ∧ ∃ (zs : List Int) (i : Nat) (zv : DV), CS L s i r bl le ba zv (.lit (.slice none 0 0)) (.lit (.slice none 0 0)) (.lit (.slice none 0 0)) (.lit (.slice none 0 0)) (.lit (.slice none 0 0)) ∧
  SlB s.H 49 1 (zs.map eI) zv ∧ i ≤ 20 ∧ r ≤ (zs.length : Int) ∧ zs.length ≤ 6 ∧ ∀ z, z ∈ zs → 0 ≤ z ∧ z < r
theorem config_l0 (L : List Int) (hL : I64s L) (r bl le ba : Int) (hr : 1 ≤ r ∧ r ≤ 3) : ∀ (k : Nat) s, L0 L r bl le ba k s → Ok (R PP shF 0 182 (.loop ir28_l0) s) (Q0 L r bl le ba) := by
  refine Ok_up 6 (L0 L r bl le ba) fun k s hI => ?_
  obtain ⟨zs, i, zv, C, hz, hi, e5, len, hk, rg⟩ := hI
  obtain ⟨v, i', hv1, hv2, hF⟩ := Yes_ex L i 3 hL (by have := C.hi; omega) (by omega) (by omega)
  obtain ⟨E, H⟩ := s
  obtain ⟨e2, e3, e4, h2, h4, h15, hi0⟩ := C
  simp only at e2 e3 e4 h2 h4 h15 e5 hz
  have w1 : IntKind.wrap .i64 ((k : Int) + 1) = ((k + 1 : Nat) : Int) := by rw [w64 (by omega) (by omega)]; rfl
  have hr0 : ¬ r = 0 := by omega
  have hm : ∀ z, z ∈ zs ++ [(k : Int).tmod r] → 0 ≤ z ∧ z < r := by
    intro z hz
    rcases List.mem_append.1 hz with hz | hz
    · exact rg z hz
    · simp at hz; subst hz
      exact ⟨Int.tmod_nonneg _ (by omega), Int.tmod_lt_of_pos _ (by omega)⟩
  have c1 : ¬ zs.length + 1 ≤ zs.length := by omega
  have c2 : (zs.length + 1) * 8 ≤ 140737488355328 ∧ zs.length ≤ 9223372036854775806 := by omega
  have ht : List.take zs.length (zs.map eI) = zs.map eI := List.take_of_length_le (by simp)
  by_cases hlt : (k : Int) < r
  · have d1 : decide ((k : Int) < r) = true := by simpa using hlt
    rcases hz with ⟨hz, rfl⟩ | ⟨hz, ver, rfl, hb⟩
    · simp -implicitDefEqProofs only [go_sem, ↓reduceIte, Nat.reduceEqDiff, Nat.reduceAdd, Nat.reduceSub, Nat.reduceMul, Nat.reduceLeDiff, Nat.reduceLT, Nat.reduceBEq, Nat.reduceBNe, reduceCtorEq, beq_self_eq_true, Int.toNat_natCast, List.length_map, List.length_nil, Int.reduceToNat, Int.reduceAdd, Int.reduceSub, Int.reduceMul, Int.reduceLT, Int.reduceLE, Int.reduceEq, Int.reduceBEq, Int.reduceNeg, decide_true, decide_false, Nat.le_max_left, Nat.le_max_right, ne_eq, not_true_eq_false, not_false_eq_true, Int.natCast_zero, gt_iff_lt, ge_iff_le, Int.reduceGT, Int.reduceGE, Bool.false_and, Bool.and_false, Bool.true_and, Bool.and_true, ir28_l0, e2, e3, e4, e5, h2, h4, h15, d1, w1, hr0]
      refine .next (by omega) ⟨zs ++ [(k : Int).tmod r], i, .ms 49 ((hg H 49).ver + 1) 0 1 1, ⟨?_, ?_, ?_, ?_, ?_, ?_, hi0⟩, SlB.mk ?_ ?_ ?_, by omega, ?_, by simp [len], by omega, hm⟩ <;> simp -implicitDefEqProofs only [go_sem, ↓reduceIte, Nat.reduceEqDiff, Nat.reduceAdd, Nat.reduceSub, Nat.reduceMul, Nat.reduceLeDiff, Nat.reduceLT, Nat.reduceBEq, Nat.reduceBNe, reduceCtorEq, beq_self_eq_true, Int.toNat_natCast, List.length_map, List.length_nil, Int.reduceToNat, Int.reduceAdd, Int.reduceSub, Int.reduceMul, Int.reduceLT, Int.reduceLE, Int.reduceEq, Int.reduceBEq, Int.reduceNeg, decide_true, decide_false, Nat.le_max_left, Nat.le_max_right, ne_eq, not_true_eq_false, not_false_eq_true, Int.natCast_zero, gt_iff_lt, ge_iff_le, Int.reduceGT, Int.reduceGE, Bool.false_and, Bool.and_false, Bool.true_and, Bool.and_true, e2, e3, e4, e5, h2, h4, h15, w1, List.map_append, hz]
    · simp -implicitDefEqProofs only [go_sem, ↓reduceIte, Nat.reduceEqDiff, Nat.reduceAdd, Nat.reduceSub, Nat.reduceMul, Nat.reduceLeDiff, Nat.reduceLT, Nat.reduceBEq, Nat.reduceBNe, reduceCtorEq, beq_self_eq_true, Int.toNat_natCast, List.length_map, List.length_nil, Int.reduceToNat, Int.reduceAdd, Int.reduceSub, Int.reduceMul, Int.reduceLT, Int.reduceLE, Int.reduceEq, Int.reduceBEq, Int.reduceNeg, decide_true, decide_false, Nat.le_max_left, Nat.le_max_right, ne_eq, not_true_eq_false, not_false_eq_true, Int.natCast_zero, gt_iff_lt, ge_iff_le, Int.reduceGT, Int.reduceGE, Bool.false_and, Bool.and_false, Bool.true_and, Bool.and_true, ir28_l0, e2, e3, e4, e5, h2, h4, h15, d1, w1, hr0, hb, c1, c2, ht]
      refine .next (by omega) ⟨zs ++ [(k : Int).tmod r], i, .ms 49 (ver + 1 + 1) 0 (zs.length + 1) (zs.length + 1), ⟨?_, ?_, ?_, ?_, ?_, ?_, hi0⟩, SlB.mk ?_ ?_ ?_, by omega, ?_, by simp [len], by omega, hm⟩ <;> simp -implicitDefEqProofs only [go_sem, ↓reduceIte, Nat.reduceEqDiff, Nat.reduceAdd, Nat.reduceSub, Nat.reduceMul, Nat.reduceLeDiff, Nat.reduceLT, Nat.reduceBEq, Nat.reduceBNe, reduceCtorEq, beq_self_eq_true, Int.toNat_natCast, List.length_map, List.length_nil, Int.reduceToNat, Int.reduceAdd, Int.reduceSub, Int.reduceMul, Int.reduceLT, Int.reduceLE, Int.reduceEq, Int.reduceBEq, Int.reduceNeg, decide_true, decide_false, Nat.le_max_left, Nat.le_max_right, ne_eq, not_true_eq_false, not_false_eq_true, Int.natCast_zero, gt_iff_lt, ge_iff_le, Int.reduceGT, Int.reduceGE, Bool.false_and, Bool.and_false, Bool.true_and, Bool.and_true, e2, e3, e4, e5, h2, h4, h15, w1, List.map_append, List.length_append]
  · have d1 : decide ((k : Int) < r) = false := by simpa using hlt
    cases v with
    | false =>
      simp -implicitDefEqProofs only [go_sem, ↓reduceIte, Nat.reduceEqDiff, Nat.reduceAdd, Nat.reduceSub, Nat.reduceMul, Nat.reduceLeDiff, Nat.reduceLT, Nat.reduceBEq, Nat.reduceBNe, reduceCtorEq, beq_self_eq_true, Int.toNat_natCast, List.length_map, List.length_nil, Int.reduceToNat, Int.reduceAdd, Int.reduceSub, Int.reduceMul, Int.reduceLT, Int.reduceLE, Int.reduceEq, Int.reduceBEq, Int.reduceNeg, decide_true, decide_false, Nat.le_max_left, Nat.le_max_right, ne_eq, not_true_eq_false, not_false_eq_true, Int.natCast_zero, gt_iff_lt, ge_iff_le, Int.reduceGT, Int.reduceGE, Bool.false_and, Bool.and_false, Bool.true_and, Bool.and_true, ir28_l0, e2, e3, e4, e5, h2, h4, h15, d1, w1, hr0, hF]
      refine .exit ⟨rfl, zs, i', zv, ⟨?_, ?_, ?_, ?_, ?_, ?_, by omega⟩, hz.keep ?_, by omega, by omega, by omega, rg⟩ <;> simp -implicitDefEqProofs only [go_sem, ↓reduceIte, Nat.reduceEqDiff, Nat.reduceAdd, Nat.reduceSub, Nat.reduceMul, Nat.reduceLeDiff, Nat.reduceLT, Nat.reduceBEq, Nat.reduceBNe, reduceCtorEq, beq_self_eq_true, Int.toNat_natCast, List.length_map, List.length_nil, Int.reduceToNat, Int.reduceAdd, Int.reduceSub, Int.reduceMul, Int.reduceLT, Int.reduceLE, Int.reduceEq, Int.reduceBEq, Int.reduceNeg, decide_true, decide_false, Nat.le_max_left, Nat.le_max_right, ne_eq, not_true_eq_false, not_false_eq_true, Int.natCast_zero, gt_iff_lt, ge_iff_le, Int.reduceGT, Int.reduceGE, Bool.false_and, Bool.and_false, Bool.true_and, Bool.and_true, e2, e3, e4, e5, h2, h4, h15, w1]
    | true =>
      by_cases hk6 : (k : Int) < 6
      · have d2 : decide ((k : Int) < 6) = true := by simpa using hk6
        rcases hz with ⟨hz, rfl⟩ | ⟨hz, ver, rfl, hb⟩
        · simp -implicitDefEqProofs only [go_sem, ↓reduceIte, Nat.reduceEqDiff, Nat.reduceAdd, Nat.reduceSub, Nat.reduceMul, Nat.reduceLeDiff, Nat.reduceLT, Nat.reduceBEq, Nat.reduceBNe, reduceCtorEq, beq_self_eq_true, Int.toNat_natCast, List.length_map, List.length_nil, Int.reduceToNat, Int.reduceAdd, Int.reduceSub, Int.reduceMul, Int.reduceLT, Int.reduceLE, Int.reduceEq, Int.reduceBEq, Int.reduceNeg, decide_true, decide_false, Nat.le_max_left, Nat.le_max_right, ne_eq, not_true_eq_false, not_false_eq_true, Int.natCast_zero, gt_iff_lt, ge_iff_le, Int.reduceGT, Int.reduceGE, Bool.false_and, Bool.and_false, Bool.true_and, Bool.and_true, ir28_l0, e2, e3, e4, e5, h2, h4, h15, d1, d2, w1, hr0, hF]
          refine .next (by omega) ⟨zs ++ [(k : Int).tmod r], i', .ms 49 ((hg H 49).ver + 1) 0 1 1, ⟨?_, ?_, ?_, ?_, ?_, ?_, by omega⟩, SlB.mk ?_ ?_ ?_, by omega, ?_, by simp [len], by omega, hm⟩ <;> simp -implicitDefEqProofs only [go_sem, ↓reduceIte, Nat.reduceEqDiff, Nat.reduceAdd, Nat.reduceSub, Nat.reduceMul, Nat.reduceLeDiff, Nat.reduceLT, Nat.reduceBEq, Nat.reduceBNe, reduceCtorEq, beq_self_eq_true, Int.toNat_natCast, List.length_map, List.length_nil, Int.reduceToNat, Int.reduceAdd, Int.reduceSub, Int.reduceMul, Int.reduceLT, Int.reduceLE, Int.reduceEq, Int.reduceBEq, Int.reduceNeg, decide_true, decide_false, Nat.le_max_left, Nat.le_max_right, ne_eq, not_true_eq_false, not_false_eq_true, Int.natCast_zero, gt_iff_lt, ge_iff_le, Int.reduceGT, Int.reduceGE, Bool.false_and, Bool.and_false, Bool.true_and, Bool.and_true, e2, e3, e4, e5, h2, h4, h15, w1, List.map_append, hz]
        · simp -implicitDefEqProofs only [go_sem, ↓reduceIte, Nat.reduceEqDiff, Nat.reduceAdd, Nat.reduceSub, Nat.reduceMul, Nat.reduceLeDiff, Nat.reduceLT, Nat.reduceBEq, Nat.reduceBNe, reduceCtorEq, beq_self_eq_true, Int.toNat_natCast, List.length_map, List.length_nil, Int.reduceToNat, Int.reduceAdd, Int.reduceSub, Int.reduceMul, Int.reduceLT, Int.reduceLE, Int.reduceEq, Int.reduceBEq, Int.reduceNeg, decide_true, decide_false, Nat.le_max_left, Nat.le_max_right, ne_eq, not_true_eq_false, not_false_eq_true, Int.natCast_zero, gt_iff_lt, ge_iff_le, Int.reduceGT, Int.reduceGE, Bool.false_and, Bool.and_false, Bool.true_and, Bool.and_true, ir28_l0, e2, e3, e4, e5, h2, h4, h15, d1, d2, w1, hr0, hb, c1, c2, ht, hF]
          refine .next (by omega) ⟨zs ++ [(k : Int).tmod r], i', .ms 49 (ver + 1 + 1) 0 (zs.length + 1) (zs.length + 1), ⟨?_, ?_, ?_, ?_, ?_, ?_, by omega⟩, SlB.mk ?_ ?_ ?_, by omega, ?_, by simp [len], by omega, hm⟩ <;> simp -implicitDefEqProofs only [go_sem, ↓reduceIte, Nat.reduceEqDiff, Nat.reduceAdd, Nat.reduceSub, Nat.reduceMul, Nat.reduceLeDiff, Nat.reduceLT, Nat.reduceBEq, Nat.reduceBNe, reduceCtorEq, beq_self_eq_true, Int.toNat_natCast, List.length_map, List.length_nil, Int.reduceToNat, Int.reduceAdd, Int.reduceSub, Int.reduceMul, Int.reduceLT, Int.reduceLE, Int.reduceEq, Int.reduceBEq, Int.reduceNeg, decide_true, decide_false, Nat.le_max_left, Nat.le_max_right, ne_eq, not_true_eq_false, not_false_eq_true, Int.natCast_zero, gt_iff_lt, ge_iff_le, Int.reduceGT, Int.reduceGE, Bool.false_and, Bool.and_false, Bool.true_and, Bool.and_true, e2, e3, e4, e5, h2, h4, h15, w1, List.map_append, List.length_append]
      · have d2 : decide ((k : Int) < 6) = false := by simpa using hk6
        simp -implicitDefEqProofs only [go_sem, ↓reduceIte, Nat.reduceEqDiff, Nat.reduceAdd, Nat.reduceSub, Nat.reduceMul, Nat.reduceLeDiff, Nat.reduceLT, Nat.reduceBEq, Nat.reduceBNe, reduceCtorEq, beq_self_eq_true, Int.toNat_natCast, List.length_map, List.length_nil, Int.reduceToNat, Int.reduceAdd, Int.reduceSub, Int.reduceMul, Int.reduceLT, Int.reduceLE, Int.reduceEq, Int.reduceBEq, Int.reduceNeg, decide_true, decide_false, Nat.le_max_left, Nat.le_max_right, ne_eq, not_true_eq_false, not_false_eq_true, Int.natCast_zero, gt_iff_lt, ge_iff_le, Int.reduceGT, Int.reduceGE, Bool.false_and, Bool.and_false, Bool.true_and, Bool.and_true, ir28_l0, e2, e3, e4, e5, h2, h4, h15, d1, d2, w1, hr0, hF]
        refine .exit ⟨rfl, zs, i', zv, ⟨?_, ?_, ?_, ?_, ?_, ?_, by omega⟩, hz.keep ?_, by omega, by omega, by omega, rg⟩ <;> simp -implicitDefEqProofs only [go_sem, ↓reduceIte, Nat.reduceEqDiff, Nat.reduceAdd, Nat.reduceSub, Nat.reduceMul, Nat.reduceLeDiff, Nat.reduceLT, Nat.reduceBEq, Nat.reduceBNe, reduceCtorEq, beq_self_eq_true, Int.toNat_natCast, List.length_map, List.length_nil, Int.reduceToNat, Int.reduceAdd, Int.reduceSub, Int.reduceMul, Int.reduceLT, Int.reduceLE, Int.reduceEq, Int.reduceBEq, Int.reduceNeg, decide_true, decide_false, Nat.le_max_left, Nat.le_max_right, ne_eq, not_true_eq_false, not_false_eq_true, Int.natCast_zero, gt_iff_lt, ge_iff_le, Int.reduceGT, Int.reduceGE, Bool.false_and, Bool.and_false, Bool.true_and, Bool.and_true, e2, e3, e4, e5, h2, h4, h15, w1]
abbrev nilV : DV := .lit (.slice none 0 0)
def L1 (L : List Int) (r bl le ba : Int) (zs : List Int) (k : Nat) (s : VSt) : Prop := ∃ (cs : List Cell) (i : Nat) (zv cv : DV), CS L s i r bl le ba zv cv nilV nilV nilV nilV ∧
  SlB s.H 49 1 (zs.map eI) zv ∧ SlB s.H 78 2 (cs.map eC) cv ∧ i ≤ 30 + 2 * k ∧ gt .bad s.E 6 = dI (k : Nat) ∧ cs.length = k ∧ k ≤ 7 ∧ ∀ c, c ∈ cs → 0 ≤ c.zone ∧ c.zone < zs.length ∧ 10 ≤ c.cap ∧ c.cap ≤ 40
def Q1 (L : List Int) (r bl le ba : Int) (zs : List Int) (e : Ex) (s : VSt) : Prop := e = .exit 2 ∧ ∃ (cs : List Cell) (i : Nat) (zv cv : DV), CS L s i r bl le ba zv cv nilV nilV nilV nilV ∧
  SlB s.H 49 1 (zs.map eI) zv ∧ SlB s.H 78 2 (cs.map eC) cv ∧ i ≤ 60 ∧ zs.length ≤ cs.length ∧ cs.length ≤ 7 ∧ ∀ c, c ∈ cs → 0 ≤ c.zone ∧ c.zone < zs.length ∧ 10 ≤ c.cap ∧ c.cap ≤ 40
theorem config_l1 (L : List Int) (hL : I64s L) (r bl le ba : Int) (zs : List Int) (hz0 : 1 ≤ zs.length) (hz6 : zs.length ≤ 6) : ∀ (k : Nat) s, L1 L r bl le ba zs k s → Ok (R PP shF 0 182 (.loop ir28_l1) s) (Q1 L r bl le ba zs) := by
  refine Ok_up 7 (L1 L r bl le ba zs) fun k s hI => ?_
  obtain ⟨cs, i, zv, cv, C, hz, hc, hi, e6, len, hk, rg⟩ := hI
  obtain ⟨v, i', hv1, hv2, hF⟩ := Yes_ex L i 2 hL (by have := C.hi; omega) (by omega) (by omega)
  obtain ⟨E, H⟩ := s
  obtain ⟨e2, e3, e4, h2, h4, h15, hi0⟩ := C
  simp only at e2 e3 e4 h2 h4 h15 e6 hz hc
  have w1 : IntKind.wrap .i64 ((k : Int) + 1) = ((k + 1 : Nat) : Int) := by rw [w64 (by omega) (by omega)]; rfl
  have hr0 : ¬ (zs.length : Int) = 0 := by omega
  have c1 : ¬ cs.length + 1 ≤ cs.length := by omega
  have c2 : (cs.length + 1) * 16 ≤ 140737488355328 ∧ cs.length ≤ 9223372036854775806 := by omega
  have ht : List.take cs.length (cs.map eC) = cs.map eC := List.take_of_length_le (by simp)
  rcases hz with ⟨hz, rfl⟩ | ⟨hz, verz, rfl, hbz⟩
  · exfalso
    have : zs = [] := by simpa using hz
    subst this; simp at hz0
  have hz : SlB H 49 1 (zs.map eI) (.ms 49 verz 0 (zs.map eI).length (zs.map eI).length) := .inr ⟨hz, verz, rfl, hbz⟩
  have hm : ∀ c : Int, 1 ≤ c → c ≤ 4 → ∀ x : Cell, x ∈ cs ++ [⟨(k : Int).tmod zs.length, c * 10⟩] → 0 ≤ x.zone ∧ x.zone < zs.length ∧ 10 ≤ x.cap ∧ x.cap ≤ 40 := by
    intro c hc1 hc2 x hx
    rcases List.mem_append.1 hx with hx | hx
    · exact rg x hx
    · simp at hx; subst hx
      have q1 : 0 ≤ (k : Int).tmod zs.length := Int.tmod_nonneg _ (by omega)
      have q2 : (k : Int).tmod zs.length < zs.length := Int.tmod_lt_of_pos _ (by omega)
      exact ⟨q1, q2, by simp only; omega, by simp only; omega⟩
  by_cases hlt : (k : Int) < zs.length
  · have d1 : decide ((k : Int) < zs.length) = true := by simpa using hlt
    obtain ⟨c, j, hc1, hc2, hj1, hj2, hG⟩ := Range_ex L i 1 4 hL (by omega) (by omega) (by omega) (by omega)
    have w2 : IntKind.wrap .i64 (c * 10) = c * 10 := w64 (by omega) (by omega)
    rcases hc with ⟨hc, rfl⟩ | ⟨hc, ver, rfl, hb⟩
    · simp -implicitDefEqProofs only [go_sem, ↓reduceIte, Nat.reduceEqDiff, Nat.reduceAdd, Nat.reduceSub, Nat.reduceMul, Nat.reduceLeDiff, Nat.reduceLT, Nat.reduceBEq, Nat.reduceBNe, reduceCtorEq, beq_self_eq_true, Int.toNat_natCast, List.length_map, List.length_nil, Int.reduceToNat, Int.reduceAdd, Int.reduceSub, Int.reduceMul, Int.reduceLT, Int.reduceLE, Int.reduceEq, Int.reduceBEq, Int.reduceNeg, decide_true, decide_false, Nat.le_max_left, Nat.le_max_right, ne_eq, not_true_eq_false, not_false_eq_true, Int.natCast_zero, gt_iff_lt, ge_iff_le, Int.reduceGT, Int.reduceGE, Bool.false_and, Bool.and_false, Bool.true_and, Bool.and_true, ir28_l1, e2, e3, e4, e6, h2, h4, h15, hbz, d1, w1, w2, hr0, hG]
      refine .next (by omega) ⟨cs ++ [⟨(k : Int).tmod zs.length, c * 10⟩], j, _, .ms 78 ((hg H 78).ver + 1) 0 1 1, ⟨?_, ?_, ?_, ?_, ?_, ?_, by omega⟩, hz.keep ?_, SlB.mk ?_ ?_ ?_, by omega, ?_, by simp [len], by omega, hm c hc1 hc2⟩ <;> simp -implicitDefEqProofs only [go_sem, ↓reduceIte, Nat.reduceEqDiff, Nat.reduceAdd, Nat.reduceSub, Nat.reduceMul, Nat.reduceLeDiff, Nat.reduceLT, Nat.reduceBEq, Nat.reduceBNe, reduceCtorEq, beq_self_eq_true, Int.toNat_natCast, List.length_map, List.length_nil, Int.reduceToNat, Int.reduceAdd, Int.reduceSub, Int.reduceMul, Int.reduceLT, Int.reduceLE, Int.reduceEq, Int.reduceBEq, Int.reduceNeg, decide_true, decide_false, Nat.le_max_left, Nat.le_max_right, ne_eq, not_true_eq_false, not_false_eq_true, Int.natCast_zero, gt_iff_lt, ge_iff_le, Int.reduceGT, Int.reduceGE, Bool.false_and, Bool.and_false, Bool.true_and, Bool.and_true, e2, e3, e4, e6, h2, h4, h15, w1, List.map_append, hc]
    · simp -implicitDefEqProofs only [go_sem, ↓reduceIte, Nat.reduceEqDiff, Nat.reduceAdd, Nat.reduceSub, Nat.reduceMul, Nat.reduceLeDiff, Nat.reduceLT, Nat.reduceBEq, Nat.reduceBNe, reduceCtorEq, beq_self_eq_true, Int.toNat_natCast, List.length_map, List.length_nil, Int.reduceToNat, Int.reduceAdd, Int.reduceSub, Int.reduceMul, Int.reduceLT, Int.reduceLE, Int.reduceEq, Int.reduceBEq, Int.reduceNeg, decide_true, decide_false, Nat.le_max_left, Nat.le_max_right, ne_eq, not_true_eq_false, not_false_eq_true, Int.natCast_zero, gt_iff_lt, ge_iff_le, Int.reduceGT, Int.reduceGE, Bool.false_and, Bool.and_false, Bool.true_and, Bool.and_true, ir28_l1, e2, e3, e4, e6, h2, h4, h15, hbz, d1, w1, w2, hr0, hG, hb, c1, c2, ht]
      refine .next (by omega) ⟨cs ++ [⟨(k : Int).tmod zs.length, c * 10⟩], j, _, .ms 78 (ver + 1 + 1) 0 (cs.length + 1) (cs.length + 1), ⟨?_, ?_, ?_, ?_, ?_, ?_, by omega⟩, hz.keep ?_, SlB.mk ?_ ?_ ?_, by omega, ?_, by simp [len], by omega, hm c hc1 hc2⟩ <;> simp -implicitDefEqProofs only [go_sem, ↓reduceIte, Nat.reduceEqDiff, Nat.reduceAdd, Nat.reduceSub, Nat.reduceMul, Nat.reduceLeDiff, Nat.reduceLT, Nat.reduceBEq, Nat.reduceBNe, reduceCtorEq, beq_self_eq_true, Int.toNat_natCast, List.length_map, List.length_nil, Int.reduceToNat, Int.reduceAdd, Int.reduceSub, Int.reduceMul, Int.reduceLT, Int.reduceLE, Int.reduceEq, Int.reduceBEq, Int.reduceNeg, decide_true, decide_false, Nat.le_max_left, Nat.le_max_right, ne_eq, not_true_eq_false, not_false_eq_true, Int.natCast_zero, gt_iff_lt, ge_iff_le, Int.reduceGT, Int.reduceGE, Bool.false_and, Bool.and_false, Bool.true_and, Bool.and_true, e2, e3, e4, e6, h2, h4, h15, w1, List.map_append, List.length_append]
  · have d1 : decide ((k : Int) < zs.length) = false := by simpa using hlt
    cases v with
    | false =>
      simp -implicitDefEqProofs only [go_sem, ↓reduceIte, Nat.reduceEqDiff, Nat.reduceAdd, Nat.reduceSub, Nat.reduceMul, Nat.reduceLeDiff, Nat.reduceLT, Nat.reduceBEq, Nat.reduceBNe, reduceCtorEq, beq_self_eq_true, Int.toNat_natCast, List.length_map, List.length_nil, Int.reduceToNat, Int.reduceAdd, Int.reduceSub, Int.reduceMul, Int.reduceLT, Int.reduceLE, Int.reduceEq, Int.reduceBEq, Int.reduceNeg, decide_true, decide_false, Nat.le_max_left, Nat.le_max_right, ne_eq, not_true_eq_false, not_false_eq_true, Int.natCast_zero, gt_iff_lt, ge_iff_le, Int.reduceGT, Int.reduceGE, Bool.false_and, Bool.and_false, Bool.true_and, Bool.and_true, ir28_l1, e2, e3, e4, e6, h2, h4, h15, hbz, d1, w1, hr0, hF]
      refine .exit ⟨rfl, cs, i', _, cv, ⟨?_, ?_, ?_, ?_, ?_, ?_, by omega⟩, hz.keep ?_, hc.keep ?_, by omega, by omega, by omega, rg⟩ <;> simp -implicitDefEqProofs only [go_sem, ↓reduceIte, Nat.reduceEqDiff, Nat.reduceAdd, Nat.reduceSub, Nat.reduceMul, Nat.reduceLeDiff, Nat.reduceLT, Nat.reduceBEq, Nat.reduceBNe, reduceCtorEq, beq_self_eq_true, Int.toNat_natCast, List.length_map, List.length_nil, Int.reduceToNat, Int.reduceAdd, Int.reduceSub, Int.reduceMul, Int.reduceLT, Int.reduceLE, Int.reduceEq, Int.reduceBEq, Int.reduceNeg, decide_true, decide_false, Nat.le_max_left, Nat.le_max_right, ne_eq, not_true_eq_false, not_false_eq_true, Int.natCast_zero, gt_iff_lt, ge_iff_le, Int.reduceGT, Int.reduceGE, Bool.false_and, Bool.and_false, Bool.true_and, Bool.and_true, e2, e3, e4, e6, h2, h4, h15, w1]
    | true =>
      by_cases hk6 : (k : Int) < 7
      · have d2 : decide ((k : Int) < 7) = true := by simpa using hk6
        obtain ⟨c, j, hc1, hc2, hj1, hj2, hG⟩ := Range_ex L i' 1 4 hL (by omega) (by omega) (by omega) (by omega)
        have w2 : IntKind.wrap .i64 (c * 10) = c * 10 := w64 (by omega) (by omega)
        rcases hc with ⟨hc, rfl⟩ | ⟨hc, ver, rfl, hb⟩
        · simp -implicitDefEqProofs only [go_sem, ↓reduceIte, Nat.reduceEqDiff, Nat.reduceAdd, Nat.reduceSub, Nat.reduceMul, Nat.reduceLeDiff, Nat.reduceLT, Nat.reduceBEq, Nat.reduceBNe, reduceCtorEq, beq_self_eq_true, Int.toNat_natCast, List.length_map, List.length_nil, Int.reduceToNat, Int.reduceAdd, Int.reduceSub, Int.reduceMul, Int.reduceLT, Int.reduceLE, Int.reduceEq, Int.reduceBEq, Int.reduceNeg, decide_true, decide_false, Nat.le_max_left, Nat.le_max_right, ne_eq, not_true_eq_false, not_false_eq_true, Int.natCast_zero, gt_iff_lt, ge_iff_le, Int.reduceGT, Int.reduceGE, Bool.false_and, Bool.and_false, Bool.true_and, Bool.and_true, ir28_l1, e2, e3, e4, e6, h2, h4, h15, hbz, d1, d2, w1, w2, hr0, hF, hG]
          refine .next (by omega) ⟨cs ++ [⟨(k : Int).tmod zs.length, c * 10⟩], j, _, .ms 78 ((hg H 78).ver + 1) 0 1 1, ⟨?_, ?_, ?_, ?_, ?_, ?_, by omega⟩, hz.keep ?_, SlB.mk ?_ ?_ ?_, by omega, ?_, by simp [len], by omega, hm c hc1 hc2⟩ <;> simp -implicitDefEqProofs only [go_sem, ↓reduceIte, Nat.reduceEqDiff, Nat.reduceAdd, Nat.reduceSub, Nat.reduceMul, Nat.reduceLeDiff, Nat.reduceLT, Nat.reduceBEq, Nat.reduceBNe, reduceCtorEq, beq_self_eq_true, Int.toNat_natCast, List.length_map, List.length_nil, Int.reduceToNat, Int.reduceAdd, Int.reduceSub, Int.reduceMul, Int.reduceLT, Int.reduceLE, Int.reduceEq, Int.reduceBEq, Int.reduceNeg, decide_true, decide_false, Nat.le_max_left, Nat.le_max_right, ne_eq, not_true_eq_false, not_false_eq_true, Int.natCast_zero, gt_iff_lt, ge_iff_le, Int.reduceGT, Int.reduceGE, Bool.false_and, Bool.and_false, Bool.true_and, Bool.and_true, e2, e3, e4, e6, h2, h4, h15, w1, List.map_append, hc]
        · simp -implicitDefEqProofs only [go_sem, ↓reduceIte, Nat.reduceEqDiff, Nat.reduceAdd, Nat.reduceSub, Nat.reduceMul, Nat.reduceLeDiff, Nat.reduceLT, Nat.reduceBEq, Nat.reduceBNe, reduceCtorEq, beq_self_eq_true, Int.toNat_natCast, List.length_map, List.length_nil, Int.reduceToNat, Int.reduceAdd, Int.reduceSub, Int.reduceMul, Int.reduceLT, Int.reduceLE, Int.reduceEq, Int.reduceBEq, Int.reduceNeg, decide_true, decide_false, Nat.le_max_left, Nat.le_max_right, ne_eq, not_true_eq_false, not_false_eq_true, Int.natCast_zero, gt_iff_lt, ge_iff_le, Int.reduceGT, Int.reduceGE, Bool.false_and, Bool.and_false, Bool.true_and, Bool.and_true, ir28_l1, e2, e3, e4, e6, h2, h4, h15, hbz, d1, d2, w1, w2, hr0, hF, hG, hb, c1, c2, ht]
          refine .next (by omega) ⟨cs ++ [⟨(k : Int).tmod zs.length, c * 10⟩], j, _, .ms 78 (ver + 1 + 1) 0 (cs.length + 1) (cs.length + 1), ⟨?_, ?_, ?_, ?_, ?_, ?_, by omega⟩, hz.keep ?_, SlB.mk ?_ ?_ ?_, by omega, ?_, by simp [len], by omega, hm c hc1 hc2⟩ <;> simp -implicitDefEqProofs only [go_sem, ↓reduceIte, Nat.reduceEqDiff, Nat.reduceAdd, Nat.reduceSub, Nat.reduceMul, Nat.reduceLeDiff, Nat.reduceLT, Nat.reduceBEq, Nat.reduceBNe, reduceCtorEq, beq_self_eq_true, Int.toNat_natCast, List.length_map, List.length_nil, Int.reduceToNat, Int.reduceAdd, Int.reduceSub, Int.reduceMul, Int.reduceLT, Int.reduceLE, Int.reduceEq, Int.reduceBEq, Int.reduceNeg, decide_true, decide_false, Nat.le_max_left, Nat.le_max_right, ne_eq, not_true_eq_false, not_false_eq_true, Int.natCast_zero, gt_iff_lt, ge_iff_le, Int.reduceGT, Int.reduceGE, Bool.false_and, Bool.and_false, Bool.true_and, Bool.and_true, e2, e3, e4, e6, h2, h4, h15, w1, List.map_append, List.length_append]
      · have d2 : decide ((k : Int) < 7) = false := by simpa using hk6
        simp -implicitDefEqProofs only [go_sem, ↓reduceIte, Nat.reduceEqDiff, Nat.reduceAdd, Nat.reduceSub, Nat.reduceMul, Nat.reduceLeDiff, Nat.reduceLT, Nat.reduceBEq, Nat.reduceBNe, reduceCtorEq, beq_self_eq_true, Int.toNat_natCast, List.length_map, List.length_nil, Int.reduceToNat, Int.reduceAdd, Int.reduceSub, Int.reduceMul, Int.reduceLT, Int.reduceLE, Int.reduceEq, Int.reduceBEq, Int.reduceNeg, decide_true, decide_false, Nat.le_max_left, Nat.le_max_right, ne_eq, not_true_eq_false, not_false_eq_true, Int.natCast_zero, gt_iff_lt, ge_iff_le, Int.reduceGT, Int.reduceGE, Bool.false_and, Bool.and_false, Bool.true_and, Bool.and_true, ir28_l1, e2, e3, e4, e6, h2, h4, h15, hbz, d1, d2, w1, hr0, hF]
        refine .exit ⟨rfl, cs, i', _, cv, ⟨?_, ?_, ?_, ?_, ?_, ?_, by omega⟩, hz.keep ?_, hc.keep ?_, by omega, by omega, by omega, rg⟩ <;> simp -implicitDefEqProofs only [go_sem, ↓reduceIte, Nat.reduceEqDiff, Nat.reduceAdd, Nat.reduceSub, Nat.reduceMul, Nat.reduceLeDiff, Nat.reduceLT, Nat.reduceBEq, Nat.reduceBNe, reduceCtorEq, beq_self_eq_true, Int.toNat_natCast, List.length_map, List.length_nil, Int.reduceToNat, Int.reduceAdd, Int.reduceSub, Int.reduceMul, Int.reduceLT, Int.reduceLE, Int.reduceEq, Int.reduceBEq, Int.reduceNeg, decide_true, decide_false, Nat.le_max_left, Nat.le_max_right, ne_eq, not_true_eq_false, not_false_eq_true, Int.natCast_zero, gt_iff_lt, ge_iff_le, Int.reduceGT, Int.reduceGE, Bool.false_and, Bool.and_false, Bool.true_and, Bool.and_true, e2, e3, e4, e6, h2, h4, h15, w1]
/-- All regions, as a set. -/
def allR (r : Int) : Int := 2 ^ r.toNat - 1
structure TenOk (r : Int) (t : Ten) : Prop where
  l0 : 1 ≤ t.load
  l1 : t.load ≤ 12
  s0 : 0 ≤ t.shadow
  s1 : t.shadow ≤ t.load
  p0 : 0 ≤ t.prio
  p1 : t.prio ≤ 3
  g0 : -1 ≤ t.lag
  g1 : t.lag ≤ 3
  a0 : 1 ≤ t.allowed
  a1 : t.allowed ≤ allR r
  u0 : 0 ≤ t.group
  u1 : t.group ≤ 2
/-- Zones and cells are there. -/
structure ZC (r : Int) (zs : List Int) (cs : List Cell) (H : VHeap) (zv cv : DV) : Prop where
  z : SlB H 49 1 (zs.map eI) zv
  c : SlB H 78 2 (cs.map eC) cv
theorem ZC.keep {r : Int} {zs : List Int} {cs : List Cell} {H H' : VHeap} {zv cv : DV} (h : ZC r zs cs H zv cv) (h1 : hg H' 49 = hg H 49) (h2 : hg H' 78 = hg H 78) : ZC r zs cs H' zv cv := ⟨h.z.keep h1, h.c.keep h2⟩
def L2 (L : List Int) (r bl le ba : Int) (zs : List Int) (cs : List Cell) (k : Nat) (s : VSt) : Prop := ∃ (ts : List Ten) (i : Nat) (zv cv tv : DV), CS L s i r bl le ba zv cv tv nilV nilV nilV ∧ ZC r zs cs s.H zv cv ∧
  SlB s.H 121 7 (ts.map eT) tv ∧ i + 10 * k ≤ 120 ∧ gt .bad s.E 7 = dI (k : Nat) ∧ ts.length + k ≤ 5 ∧ ∀ t, t ∈ ts → TenOk r t
def Q2 (L : List Int) (r bl le ba : Int) (zs : List Int) (cs : List Cell) (e : Ex) (s : VSt) : Prop := e = .exit 4 ∧ ∃ (ts : List Ten) (i : Nat) (zv cv tv : DV), CS L s i r bl le ba zv cv tv nilV nilV nilV ∧ ZC r zs cs s.H zv cv ∧
  SlB s.H 121 7 (ts.map eT) tv ∧ i ≤ 120 ∧ ts.length ≤ 5 ∧ ∀ t, t ∈ ts → TenOk r t
theorem config_l2 (L : List Int) (hL : I64s L) (r bl le ba : Int) (hr : 1 ≤ r ∧ r ≤ 3) (zs : List Int) (cs : List Cell) : ∀ (k : Nat) s, L2 L r bl le ba zs cs k s → Ok (R PP shF 0 182 (.loop ir28_l2) s) (Q2 L r bl le ba zs cs) := by
  refine Ok_dn (L2 L r bl le ba zs cs) fun k s hI => ?_
  obtain ⟨ts, i, zv, cv, tv, C, hzc, ht, hi, e7, len, rg⟩ := hI
  obtain ⟨E, H⟩ := s
  obtain ⟨e2, e3, e4, h2, h4, h15, hi0⟩ := C
  simp only at e2 e3 e4 h2 h4 h15 e7 hzc ht
  by_cases hk : k = 0
  · subst hk
    have d1 : decide (((0 : Nat) : Int) > 0) = false := by simp
    simp -implicitDefEqProofs only [go_sem, ↓reduceIte, Nat.reduceEqDiff, Nat.reduceAdd, Nat.reduceSub, Nat.reduceMul, Nat.reduceLeDiff, Nat.reduceLT, Nat.reduceBEq, Nat.reduceBNe, reduceCtorEq, beq_self_eq_true, Int.toNat_natCast, List.length_map, List.length_nil, Int.reduceToNat, Int.reduceAdd, Int.reduceSub, Int.reduceMul, Int.reduceLT, Int.reduceLE, Int.reduceEq, Int.reduceBEq, Int.reduceNeg, decide_true, decide_false, Nat.le_max_left, Nat.le_max_right, ne_eq, not_true_eq_false, not_false_eq_true, Int.natCast_zero, gt_iff_lt, ge_iff_le, Int.reduceGT, Int.reduceGE, Bool.false_and, Bool.and_false, Bool.true_and, Bool.and_true, ir28_l2, e7]
    refine .exit ⟨rfl, ts, i, zv, cv, tv, ⟨?_, ?_, ?_, ?_, ?_, ?_, by omega⟩, hzc.keep ?_ ?_, ht.keep ?_, by omega, by omega, rg⟩ <;> simp -implicitDefEqProofs only [go_sem, ↓reduceIte, Nat.reduceEqDiff, Nat.reduceAdd, Nat.reduceSub, Nat.reduceMul, Nat.reduceLeDiff, Nat.reduceLT, Nat.reduceBEq, Nat.reduceBNe, reduceCtorEq, beq_self_eq_true, Int.toNat_natCast, List.length_map, List.length_nil, Int.reduceToNat, Int.reduceAdd, Int.reduceSub, Int.reduceMul, Int.reduceLT, Int.reduceLE, Int.reduceEq, Int.reduceBEq, Int.reduceNeg, decide_true, decide_false, Nat.le_max_left, Nat.le_max_right, ne_eq, not_true_eq_false, not_false_eq_true, Int.natCast_zero, gt_iff_lt, ge_iff_le, Int.reduceGT, Int.reduceGE, Bool.false_and, Bool.and_false, Bool.true_and, Bool.and_true, e2, e3, e4, h2, h4, h15]
  · have d1 : decide (0 < (k : Int)) = true := by simp; omega
    have w1 : IntKind.wrap .i64 ((k : Int) - 1) = ((k - 1 : Nat) : Int) := by rw [w64 (by omega) (by omega)]; omega
    have hA : allR r = 1 ∨ allR r = 3 ∨ allR r = 7 := by
      obtain rfl | rfl | rfl : r = 1 ∨ r = 2 ∨ r = 3 := by omega
      · left; rfl
      · right; left; rfl
      · right; right; rfl
    obtain ⟨v1, i1, a1, b1, c1, d1', F1⟩ := Range_ex L i 1 12 hL (by omega) (by omega) (by omega) (by omega)
    obtain ⟨v2, i2, a2, b2, c2, d2', F2⟩ := Next_ex L i1 (v1 + 1) hL (by omega) (by omega) (by omega)
    obtain ⟨v3, i3, a3, b3, c3, d3', F3⟩ := Next_ex L i2 4 hL (by omega) (by omega) (by omega)
    obtain ⟨v4, i4, a4, b4, c4, d4', F4⟩ := Range_ex L i3 (-1) 3 hL (by omega) (by omega) (by omega) (by omega)
    obtain ⟨v5, i5, a5, b5, c5, d5', F5⟩ := Next_ex L i4 3 hL (by omega) (by omega) (by omega)
    obtain ⟨v6, i6, c6, d6', F6⟩ := Yes_ex L i5 4 hL (by omega) (by omega) (by omega)
    obtain ⟨v7, i7, c7, d7', F7⟩ := Yes_ex L i6 4 hL (by omega) (by omega) (by omega)
    obtain ⟨v8, i8, a8, b8, c8, d8', F8⟩ := Range_ex L i7 1 (allR r) hL (by omega) (by omega) (by omega) (by omega)
    have w2 : IntKind.wrap .i64 (v1 + 1) = v1 + 1 := w64 (by omega) (by omega)
    have cu : IntKind.wrap .u64 r = r := by simp [IntKind.wrap, IntKind.min, IntKind.max, IntKind.signed, IntKind.bits]; omega
    have nr : ¬ r < 0 := by omega
    have wA : IntKind.wrap .i64 (IntKind.wrap .i64 (1 * 2 ^ min r.toNat 64) - 1) = allR r := by
      obtain rfl | rfl | rfl : r = 1 ∨ r = 2 ∨ r = 3 := by omega
      · rfl
      · rfl
      · rfl
    have c1' : ¬ ts.length + 1 ≤ ts.length := by omega
    have c2' : (ts.length + 1) * 56 ≤ 140737488355328 ∧ ts.length ≤ 9223372036854775806 := by omega
    have ht' : List.take ts.length (ts.map eT) = ts.map eT := List.take_of_length_le (by simp)
    have hm : ∀ A : Int, 1 ≤ A → A ≤ allR r → ∀ t, t ∈ ts ++ [⟨v1, v2, v3, v4, A, v5, v6⟩] → TenOk r t := by
      intro A hA1 hA2 t hx
      rcases List.mem_append.1 hx with hx | hx
      · exact rg t hx
      · simp at hx; subst hx
        constructor <;> simp only <;> omega
    cases v7 with
    | false =>
      rcases ht with ⟨ht, rfl⟩ | ⟨ht, ver, rfl, hb⟩
      · simp -implicitDefEqProofs only [go_sem, ↓reduceIte, Nat.reduceEqDiff, Nat.reduceAdd, Nat.reduceSub, Nat.reduceMul, Nat.reduceLeDiff, Nat.reduceLT, Nat.reduceBEq, Nat.reduceBNe, reduceCtorEq, beq_self_eq_true, Int.toNat_natCast, List.length_map, List.length_nil, Int.reduceToNat, Int.reduceAdd, Int.reduceSub, Int.reduceMul, Int.reduceLT, Int.reduceLE, Int.reduceEq, Int.reduceBEq, Int.reduceNeg, decide_true, decide_false, Nat.le_max_left, Nat.le_max_right, ne_eq, not_true_eq_false, not_false_eq_true, Int.natCast_zero, gt_iff_lt, ge_iff_le, Int.reduceGT, Int.reduceGE, Bool.false_and, Bool.and_false, Bool.true_and, Bool.and_true, ir28_l2, e2, e3, e4, e7, h2, h4, h15, d1, w1, F1, F2, F3, F4, F5, F6, F7, w2, cu, nr, wA]
        refine .next (m := k - 1) (by omega) ⟨ts ++ [⟨v1, v2, v3, v4, allR r, v5, v6⟩], i7, _, _, .ms 121 ((hg H 121).ver + 1) 0 1 1, ⟨?_, ?_, ?_, ?_, ?_, ?_, by omega⟩, hzc.keep ?_ ?_, SlB.mk ?_ ?_ ?_, by omega, ?_, by simp; omega, hm _ (by omega) (by omega)⟩ <;> simp -implicitDefEqProofs only [go_sem, ↓reduceIte, Nat.reduceEqDiff, Nat.reduceAdd, Nat.reduceSub, Nat.reduceMul, Nat.reduceLeDiff, Nat.reduceLT, Nat.reduceBEq, Nat.reduceBNe, reduceCtorEq, beq_self_eq_true, Int.toNat_natCast, List.length_map, List.length_nil, Int.reduceToNat, Int.reduceAdd, Int.reduceSub, Int.reduceMul, Int.reduceLT, Int.reduceLE, Int.reduceEq, Int.reduceBEq, Int.reduceNeg, decide_true, decide_false, Nat.le_max_left, Nat.le_max_right, ne_eq, not_true_eq_false, not_false_eq_true, Int.natCast_zero, gt_iff_lt, ge_iff_le, Int.reduceGT, Int.reduceGE, Bool.false_and, Bool.and_false, Bool.true_and, Bool.and_true, e2, e3, e4, e7, h2, h4, h15, w1, List.map_append, ht]
      · simp -implicitDefEqProofs only [go_sem, ↓reduceIte, Nat.reduceEqDiff, Nat.reduceAdd, Nat.reduceSub, Nat.reduceMul, Nat.reduceLeDiff, Nat.reduceLT, Nat.reduceBEq, Nat.reduceBNe, reduceCtorEq, beq_self_eq_true, Int.toNat_natCast, List.length_map, List.length_nil, Int.reduceToNat, Int.reduceAdd, Int.reduceSub, Int.reduceMul, Int.reduceLT, Int.reduceLE, Int.reduceEq, Int.reduceBEq, Int.reduceNeg, decide_true, decide_false, Nat.le_max_left, Nat.le_max_right, ne_eq, not_true_eq_false, not_false_eq_true, Int.natCast_zero, gt_iff_lt, ge_iff_le, Int.reduceGT, Int.reduceGE, Bool.false_and, Bool.and_false, Bool.true_and, Bool.and_true, ir28_l2, e2, e3, e4, e7, h2, h4, h15, d1, w1, F1, F2, F3, F4, F5, F6, F7, w2, cu, nr, wA, hb, c1', c2', ht']
        refine .next (m := k - 1) (by omega) ⟨ts ++ [⟨v1, v2, v3, v4, allR r, v5, v6⟩], i7, _, _, .ms 121 (ver + 1 + 1) 0 (ts.length + 1) (ts.length + 1), ⟨?_, ?_, ?_, ?_, ?_, ?_, by omega⟩, hzc.keep ?_ ?_, SlB.mk ?_ ?_ ?_, by omega, ?_, by simp; omega, hm _ (by omega) (by omega)⟩ <;> simp -implicitDefEqProofs only [go_sem, ↓reduceIte, Nat.reduceEqDiff, Nat.reduceAdd, Nat.reduceSub, Nat.reduceMul, Nat.reduceLeDiff, Nat.reduceLT, Nat.reduceBEq, Nat.reduceBNe, reduceCtorEq, beq_self_eq_true, Int.toNat_natCast, List.length_map, List.length_nil, Int.reduceToNat, Int.reduceAdd, Int.reduceSub, Int.reduceMul, Int.reduceLT, Int.reduceLE, Int.reduceEq, Int.reduceBEq, Int.reduceNeg, decide_true, decide_false, Nat.le_max_left, Nat.le_max_right, ne_eq, not_true_eq_false, not_false_eq_true, Int.natCast_zero, gt_iff_lt, ge_iff_le, Int.reduceGT, Int.reduceGE, Bool.false_and, Bool.and_false, Bool.true_and, Bool.and_true, e2, e3, e4, e7, h2, h4, h15, w1, List.map_append, List.length_append]
    | true =>
      rcases ht with ⟨ht, rfl⟩ | ⟨ht, ver, rfl, hb⟩
      · simp -implicitDefEqProofs only [go_sem, ↓reduceIte, Nat.reduceEqDiff, Nat.reduceAdd, Nat.reduceSub, Nat.reduceMul, Nat.reduceLeDiff, Nat.reduceLT, Nat.reduceBEq, Nat.reduceBNe, reduceCtorEq, beq_self_eq_true, Int.toNat_natCast, List.length_map, List.length_nil, Int.reduceToNat, Int.reduceAdd, Int.reduceSub, Int.reduceMul, Int.reduceLT, Int.reduceLE, Int.reduceEq, Int.reduceBEq, Int.reduceNeg, decide_true, decide_false, Nat.le_max_left, Nat.le_max_right, ne_eq, not_true_eq_false, not_false_eq_true, Int.natCast_zero, gt_iff_lt, ge_iff_le, Int.reduceGT, Int.reduceGE, Bool.false_and, Bool.and_false, Bool.true_and, Bool.and_true, ir28_l2, e2, e3, e4, e7, h2, h4, h15, d1, w1, F1, F2, F3, F4, F5, F6, F7, F8, w2, cu, nr, wA]
        refine .next (m := k - 1) (by omega) ⟨ts ++ [⟨v1, v2, v3, v4, v8, v5, v6⟩], i8, _, _, .ms 121 ((hg H 121).ver + 1) 0 1 1, ⟨?_, ?_, ?_, ?_, ?_, ?_, by omega⟩, hzc.keep ?_ ?_, SlB.mk ?_ ?_ ?_, by omega, ?_, by simp; omega, hm _ (by omega) (by omega)⟩ <;> simp -implicitDefEqProofs only [go_sem, ↓reduceIte, Nat.reduceEqDiff, Nat.reduceAdd, Nat.reduceSub, Nat.reduceMul, Nat.reduceLeDiff, Nat.reduceLT, Nat.reduceBEq, Nat.reduceBNe, reduceCtorEq, beq_self_eq_true, Int.toNat_natCast, List.length_map, List.length_nil, Int.reduceToNat, Int.reduceAdd, Int.reduceSub, Int.reduceMul, Int.reduceLT, Int.reduceLE, Int.reduceEq, Int.reduceBEq, Int.reduceNeg, decide_true, decide_false, Nat.le_max_left, Nat.le_max_right, ne_eq, not_true_eq_false, not_false_eq_true, Int.natCast_zero, gt_iff_lt, ge_iff_le, Int.reduceGT, Int.reduceGE, Bool.false_and, Bool.and_false, Bool.true_and, Bool.and_true, e2, e3, e4, e7, h2, h4, h15, w1, List.map_append, ht]
      · simp -implicitDefEqProofs only [go_sem, ↓reduceIte, Nat.reduceEqDiff, Nat.reduceAdd, Nat.reduceSub, Nat.reduceMul, Nat.reduceLeDiff, Nat.reduceLT, Nat.reduceBEq, Nat.reduceBNe, reduceCtorEq, beq_self_eq_true, Int.toNat_natCast, List.length_map, List.length_nil, Int.reduceToNat, Int.reduceAdd, Int.reduceSub, Int.reduceMul, Int.reduceLT, Int.reduceLE, Int.reduceEq, Int.reduceBEq, Int.reduceNeg, decide_true, decide_false, Nat.le_max_left, Nat.le_max_right, ne_eq, not_true_eq_false, not_false_eq_true, Int.natCast_zero, gt_iff_lt, ge_iff_le, Int.reduceGT, Int.reduceGE, Bool.false_and, Bool.and_false, Bool.true_and, Bool.and_true, ir28_l2, e2, e3, e4, e7, h2, h4, h15, d1, w1, F1, F2, F3, F4, F5, F6, F7, F8, w2, cu, nr, wA, hb, c1', c2', ht']
        refine .next (m := k - 1) (by omega) ⟨ts ++ [⟨v1, v2, v3, v4, v8, v5, v6⟩], i8, _, _, .ms 121 (ver + 1 + 1) 0 (ts.length + 1) (ts.length + 1), ⟨?_, ?_, ?_, ?_, ?_, ?_, by omega⟩, hzc.keep ?_ ?_, SlB.mk ?_ ?_ ?_, by omega, ?_, by simp; omega, hm _ (by omega) (by omega)⟩ <;> simp -implicitDefEqProofs only [go_sem, ↓reduceIte, Nat.reduceEqDiff, Nat.reduceAdd, Nat.reduceSub, Nat.reduceMul, Nat.reduceLeDiff, Nat.reduceLT, Nat.reduceBEq, Nat.reduceBNe, reduceCtorEq, beq_self_eq_true, Int.toNat_natCast, List.length_map, List.length_nil, Int.reduceToNat, Int.reduceAdd, Int.reduceSub, Int.reduceMul, Int.reduceLT, Int.reduceLE, Int.reduceEq, Int.reduceBEq, Int.reduceNeg, decide_true, decide_false, Nat.le_max_left, Nat.le_max_right, ne_eq, not_true_eq_false, not_false_eq_true, Int.natCast_zero, gt_iff_lt, ge_iff_le, Int.reduceGT, Int.reduceGE, Bool.false_and, Bool.and_false, Bool.true_and, Bool.and_true, e2, e3, e4, e7, h2, h4, h15, w1, List.map_append, List.length_append]
/-- Zones, cells and tenants are there. -/
structure ZT (r : Int) (zs : List Int) (cs : List Cell) (ts : List Ten) (H : VHeap) (zv cv tv : DV) : Prop where
  z : SlB H 49 1 (zs.map eI) zv
  c : SlB H 78 2 (cs.map eC) cv
  t : SlB H 121 7 (ts.map eT) tv
theorem ZT.keep {r : Int} {zs : List Int} {cs : List Cell} {ts : List Ten} {H H' : VHeap} {zv cv tv : DV} (h : ZT r zs cs ts H zv cv tv) (h1 : hg H' 49 = hg H 49) (h2 : hg H' 78 = hg H 78) (h3 : hg H' 121 = hg H 121) : ZT r zs cs ts H' zv cv tv := ⟨h.z.keep h1, h.c.keep h2, h.t.keep h3⟩
structure VerOk (v : Ver) : Prop where
  l0 : 0 ≤ v.low
  l1 : v.low ≤ 1
  h0 : v.low ≤ v.high
  h1 : v.high ≤ v.low + 2
/-- The versions lie in one of two blocks. -/
def SlV (H : VHeap) (vs : List Ver) (v : DV) : Prop := vs ≠ [] ∧ ∃ b ver, (b = 126 ∨ b = 145) ∧ v = .ms b ver 0 (vs.map eV).length (vs.map eV).length ∧ hg H b = ⟨ver, 2, true, vs.map eV⟩
theorem SlV.keep {H H' : VHeap} {vs : List Ver} {v : DV} (h : SlV H vs v) (h1 : hg H' 126 = hg H 126) (h2 : hg H' 145 = hg H 145) : SlV H' vs v := by
  obtain ⟨h0, b, ver, hb, hv, hh⟩ := h
  refine ⟨h0, b, ver, hb, hv, ?_⟩
  rcases hb with rfl | rfl
  · rw [h1]; exact hh
  · rw [h2]; exact hh
def L3 (L : List Int) (r bl le ba : Int) (zs : List Int) (cs : List Cell) (ts : List Ten) (k : Nat) (s : VSt) : Prop := ∃ (vs : List Ver) (i : Nat) (zv cv tv vv : DV), CS L s i r bl le ba zv cv tv vv nilV nilV ∧ ZT r zs cs ts s.H zv cv tv ∧
  SlV s.H vs vv ∧ i + 10 * k ≤ 180 ∧ gt .bad s.E 10 = dI (k : Nat) ∧ vs.length + k ≤ 3 ∧ (∀ v, v ∈ vs → VerOk v) ∧ ∀ v, vs.head? = some v → v.low = 0
def Q3 (L : List Int) (r bl le ba : Int) (zs : List Int) (cs : List Cell) (ts : List Ten) (e : Ex) (s : VSt) : Prop := e = .exit 6 ∧ ∃ (vs : List Ver) (i : Nat) (zv cv tv vv : DV), CS L s i r bl le ba zv cv tv vv nilV nilV ∧ ZT r zs cs ts s.H zv cv tv ∧
  SlV s.H vs vv ∧ i ≤ 180 ∧ vs.length ≤ 3 ∧ (∀ v, v ∈ vs → VerOk v) ∧ ∀ v, vs.head? = some v → v.low = 0
theorem config_l3 (L : List Int) (hL : I64s L) (r bl le ba : Int) (zs : List Int) (cs : List Cell) (ts : List Ten) : ∀ (k : Nat) s, L3 L r bl le ba zs cs ts k s → Ok (R PP shF 0 182 (.loop ir28_l3) s) (Q3 L r bl le ba zs cs ts) := by
  refine Ok_dn (L3 L r bl le ba zs cs ts) fun k s hI => ?_
  obtain ⟨vs, i, zv, cv, tv, vv, C, hzc, ht, hi, e7, len, rg, hd⟩ := hI
  obtain ⟨E, H⟩ := s
  obtain ⟨e2, e3, e4, h2, h4, h15, hi0⟩ := C
  simp only at e2 e3 e4 h2 h4 h15 e7 hzc ht
  by_cases hk : k = 0
  · subst hk
    simp -implicitDefEqProofs only [go_sem, ↓reduceIte, Nat.reduceEqDiff, Nat.reduceAdd, Nat.reduceSub, Nat.reduceMul, Nat.reduceLeDiff, Nat.reduceLT, Nat.reduceBEq, Nat.reduceBNe, reduceCtorEq, beq_self_eq_true, Int.toNat_natCast, List.length_map, List.length_nil, Int.reduceToNat, Int.reduceAdd, Int.reduceSub, Int.reduceMul, Int.reduceLT, Int.reduceLE, Int.reduceEq, Int.reduceBEq, Int.reduceNeg, decide_true, decide_false, Nat.le_max_left, Nat.le_max_right, ne_eq, not_true_eq_false, not_false_eq_true, Int.natCast_zero, gt_iff_lt, ge_iff_le, Int.reduceGT, Int.reduceGE, Bool.false_and, Bool.and_false, Bool.true_and, Bool.and_true, ir28_l3, e7]
    refine .exit ⟨rfl, vs, i, zv, cv, tv, vv, ⟨?_, ?_, ?_, ?_, ?_, ?_, by omega⟩, hzc.keep ?_ ?_ ?_, ht.keep ?_ ?_, by omega, by omega, rg, hd⟩ <;> simp -implicitDefEqProofs only [go_sem, ↓reduceIte, Nat.reduceEqDiff, Nat.reduceAdd, Nat.reduceSub, Nat.reduceMul, Nat.reduceLeDiff, Nat.reduceLT, Nat.reduceBEq, Nat.reduceBNe, reduceCtorEq, beq_self_eq_true, Int.toNat_natCast, List.length_map, List.length_nil, Int.reduceToNat, Int.reduceAdd, Int.reduceSub, Int.reduceMul, Int.reduceLT, Int.reduceLE, Int.reduceEq, Int.reduceBEq, Int.reduceNeg, decide_true, decide_false, Nat.le_max_left, Nat.le_max_right, ne_eq, not_true_eq_false, not_false_eq_true, Int.natCast_zero, gt_iff_lt, ge_iff_le, Int.reduceGT, Int.reduceGE, Bool.false_and, Bool.and_false, Bool.true_and, Bool.and_true, e2, e3, e4, h2, h4, h15]
  · have d1 : decide (0 < (k : Int)) = true := by simp; omega
    have w1 : IntKind.wrap .i64 ((k : Int) - 1) = ((k - 1 : Nat) : Int) := by rw [w64 (by omega) (by omega)]; omega
    obtain ⟨v1, i1, a1, b1, c1, d1', F1⟩ := Next_ex L i 2 hL (by omega) (by omega) (by omega)
    obtain ⟨v2, i2, a2, b2, c2, d2', F2⟩ := Next_ex L i1 3 hL (by omega) (by omega) (by omega)
    have w2 : IntKind.wrap .i64 (v1 + v2) = v1 + v2 := w64 (by omega) (by omega)
    have c1' : ¬ vs.length + 1 ≤ vs.length := by omega
    have c2' : (vs.length + 1) * 16 ≤ 140737488355328 ∧ vs.length ≤ 9223372036854775806 := by omega
    have ht' : List.take vs.length (vs.map eV) = vs.map eV := List.take_of_length_le (by simp)
    obtain ⟨h0, b, ver, hb, rfl, hh⟩ := ht
    have hm : ∀ t, t ∈ vs ++ [⟨v1, v1 + v2⟩] → VerOk t := by
      intro t hx
      rcases List.mem_append.1 hx with hx | hx
      · exact rg t hx
      · simp at hx; subst hx
        constructor <;> simp only <;> omega
    have hd' : ∀ v : Ver, (vs ++ [(⟨v1, v1 + v2⟩ : Ver)]).head? = some v → v.low = 0 := by
      intro v hv
      refine hd v ?_
      cases vs with
      | nil => exact absurd rfl h0
      | cons a l => exact hv
    have hne : vs ++ [(⟨v1, v1 + v2⟩ : Ver)] ≠ [] := by simp
    rcases hb with rfl | rfl
    · simp -implicitDefEqProofs only [go_sem, ↓reduceIte, Nat.reduceEqDiff, Nat.reduceAdd, Nat.reduceSub, Nat.reduceMul, Nat.reduceLeDiff, Nat.reduceLT, Nat.reduceBEq, Nat.reduceBNe, reduceCtorEq, beq_self_eq_true, Int.toNat_natCast, List.length_map, List.length_nil, Int.reduceToNat, Int.reduceAdd, Int.reduceSub, Int.reduceMul, Int.reduceLT, Int.reduceLE, Int.reduceEq, Int.reduceBEq, Int.reduceNeg, decide_true, decide_false, Nat.le_max_left, Nat.le_max_right, ne_eq, not_true_eq_false, not_false_eq_true, Int.natCast_zero, gt_iff_lt, ge_iff_le, Int.reduceGT, Int.reduceGE, Bool.false_and, Bool.and_false, Bool.true_and, Bool.and_true, ir28_l3, e2, e3, e4, e7, h2, h4, h15, d1, w1, F1, F2, w2, hh, c1', c2', ht']
      refine .next (m := k - 1) (by omega) ⟨vs ++ [⟨v1, v1 + v2⟩], i2, _, _, _, .ms 145 ((hg H 145).ver + 1) 0 (vs.length + 1) (vs.length + 1), ⟨?_, ?_, ?_, ?_, ?_, ?_, by omega⟩, hzc.keep ?_ ?_ ?_, ⟨hne, 145, (hg H 145).ver + 1, .inr rfl, ?_, ?_⟩, by omega, ?_, by simp; omega, hm, hd'⟩ <;> simp -implicitDefEqProofs only [go_sem, ↓reduceIte, Nat.reduceEqDiff, Nat.reduceAdd, Nat.reduceSub, Nat.reduceMul, Nat.reduceLeDiff, Nat.reduceLT, Nat.reduceBEq, Nat.reduceBNe, reduceCtorEq, beq_self_eq_true, Int.toNat_natCast, List.length_map, List.length_nil, Int.reduceToNat, Int.reduceAdd, Int.reduceSub, Int.reduceMul, Int.reduceLT, Int.reduceLE, Int.reduceEq, Int.reduceBEq, Int.reduceNeg, decide_true, decide_false, Nat.le_max_left, Nat.le_max_right, ne_eq, not_true_eq_false, not_false_eq_true, Int.natCast_zero, gt_iff_lt, ge_iff_le, Int.reduceGT, Int.reduceGE, Bool.false_and, Bool.and_false, Bool.true_and, Bool.and_true, e2, e3, e4, e7, h2, h4, h15, w1, List.map_append, List.length_append]
    · simp -implicitDefEqProofs only [go_sem, ↓reduceIte, Nat.reduceEqDiff, Nat.reduceAdd, Nat.reduceSub, Nat.reduceMul, Nat.reduceLeDiff, Nat.reduceLT, Nat.reduceBEq, Nat.reduceBNe, reduceCtorEq, beq_self_eq_true, Int.toNat_natCast, List.length_map, List.length_nil, Int.reduceToNat, Int.reduceAdd, Int.reduceSub, Int.reduceMul, Int.reduceLT, Int.reduceLE, Int.reduceEq, Int.reduceBEq, Int.reduceNeg, decide_true, decide_false, Nat.le_max_left, Nat.le_max_right, ne_eq, not_true_eq_false, not_false_eq_true, Int.natCast_zero, gt_iff_lt, ge_iff_le, Int.reduceGT, Int.reduceGE, Bool.false_and, Bool.and_false, Bool.true_and, Bool.and_true, ir28_l3, e2, e3, e4, e7, h2, h4, h15, d1, w1, F1, F2, w2, hh, c1', c2', ht']
      refine .next (m := k - 1) (by omega) ⟨vs ++ [⟨v1, v1 + v2⟩], i2, _, _, _, .ms 145 (ver + 1 + 1) 0 (vs.length + 1) (vs.length + 1), ⟨?_, ?_, ?_, ?_, ?_, ?_, by omega⟩, hzc.keep ?_ ?_ ?_, ⟨hne, 145, ver + 1 + 1, .inr rfl, ?_, ?_⟩, by omega, ?_, by simp; omega, hm, hd'⟩ <;> simp -implicitDefEqProofs only [go_sem, ↓reduceIte, Nat.reduceEqDiff, Nat.reduceAdd, Nat.reduceSub, Nat.reduceMul, Nat.reduceLeDiff, Nat.reduceLT, Nat.reduceBEq, Nat.reduceBNe, reduceCtorEq, beq_self_eq_true, Int.toNat_natCast, List.length_map, List.length_nil, Int.reduceToNat, Int.reduceAdd, Int.reduceSub, Int.reduceMul, Int.reduceLT, Int.reduceLE, Int.reduceEq, Int.reduceBEq, Int.reduceNeg, decide_true, decide_false, Nat.le_max_left, Nat.le_max_right, ne_eq, not_true_eq_false, not_false_eq_true, Int.natCast_zero, gt_iff_lt, ge_iff_le, Int.reduceGT, Int.reduceGE, Bool.false_and, Bool.and_false, Bool.true_and, Bool.and_true, e2, e3, e4, e7, h2, h4, h15, w1, List.map_append, List.length_append]
/-- Zones, cells, tenants, versions (and replicas) are there. -/
structure ZV (r : Int) (zs : List Int) (cs : List Cell) (ts : List Ten) (vs : List Ver) (rs : List Int) (H : VHeap) (zv cv tv vv rv : DV) : Prop where
  z : SlB H 49 1 (zs.map eI) zv
  c : SlB H 78 2 (cs.map eC) cv
  t : SlB H 121 7 (ts.map eT) tv
  v : SlV H vs vv
  r : SlB H 163 1 (rs.map eI) rv
theorem ZV.keep {r : Int} {zs : List Int} {cs : List Cell} {ts : List Ten} {vs : List Ver} {rs : List Int} {H H' : VHeap} {zv cv tv vv rv : DV} (h : ZV r zs cs ts vs rs H zv cv tv vv rv) (h1 : hg H' 49 = hg H 49) (h2 : hg H' 78 = hg H 78) (h3 : hg H' 121 = hg H 121) (h4 : hg H' 126 = hg H 126) (h5 : hg H' 145 = hg H 145) (h6 : hg H' 163 = hg H 163) : ZV r zs cs ts vs rs H' zv cv tv vv rv := ⟨h.z.keep h1, h.c.keep h2, h.t.keep h3, h.v.keep h4 h5, h.r.keep h6⟩
structure ZR (r : Int) (zs : List Int) (cs : List Cell) (ts : List Ten) (vs : List Ver) (H : VHeap) (zv cv tv vv : DV) : Prop where
  z : SlB H 49 1 (zs.map eI) zv
  c : SlB H 78 2 (cs.map eC) cv
  t : SlB H 121 7 (ts.map eT) tv
  v : SlV H vs vv
theorem ZR.keep {r : Int} {zs : List Int} {cs : List Cell} {ts : List Ten} {vs : List Ver} {H H' : VHeap} {zv cv tv vv : DV} (h : ZR r zs cs ts vs H zv cv tv vv) (h1 : hg H' 49 = hg H 49) (h2 : hg H' 78 = hg H 78) (h3 : hg H' 121 = hg H 121) (h4 : hg H' 126 = hg H 126) (h5 : hg H' 145 = hg H 145) : ZR r zs cs ts vs H' zv cv tv vv := ⟨h.z.keep h1, h.c.keep h2, h.t.keep h3, h.v.keep h4 h5⟩
def L4 (L : List Int) (r bl le ba : Int) (zs : List Int) (cs : List Cell) (ts : List Ten) (vs : List Ver) (rs : List Int) (N : Nat) (k : Nat) (s : VSt) : Prop := ∃ (os : List Int) (i : Nat) (zv cv tv vv rv ov : DV), CS L s i r bl le ba zv cv tv vv rv nilV ∧ ZR r zs cs ts vs s.H zv cv tv vv ∧
  SlB s.H 163 1 (os.map eI) rv ∧ i + 10 * k ≤ 240 ∧ gt .bad s.E 12 = dI (k : Nat) ∧ os.length + k = N ∧ ∀ z, z ∈ os → 0 ≤ z ∧ z < zs.length
def Q4 (L : List Int) (r bl le ba : Int) (zs : List Int) (cs : List Cell) (ts : List Ten) (vs : List Ver) (rs : List Int) (N : Nat) (e : Ex) (s : VSt) : Prop := e = .exit 8 ∧ ∃ (os : List Int) (i : Nat) (zv cv tv vv rv ov : DV), CS L s i r bl le ba zv cv tv vv rv nilV ∧ ZR r zs cs ts vs s.H zv cv tv vv ∧
  SlB s.H 163 1 (os.map eI) rv ∧ i ≤ 240 ∧ os.length = N ∧ ∀ z, z ∈ os → 0 ≤ z ∧ z < zs.length
theorem config_l4 (L : List Int) (hL : I64s L) (r bl le ba : Int) (zs : List Int) (hz0 : 1 ≤ zs.length) (hz6 : zs.length ≤ 6) (cs : List Cell) (ts : List Ten) (vs : List Ver) (rs : List Int) (N : Nat) (hN : N ≤ 4) : ∀ (k : Nat) s, L4 L r bl le ba zs cs ts vs rs N k s → Ok (R PP shF 0 182 (.loop ir28_l4) s) (Q4 L r bl le ba zs cs ts vs rs N) := by
  refine Ok_dn (L4 L r bl le ba zs cs ts vs rs N) fun k s hI => ?_
  obtain ⟨os, i, zv, cv, tv, vv, rv, ov, C, hzc, ht, hi, e7, len, rg⟩ := hI
  obtain ⟨E, H⟩ := s
  obtain ⟨e2, e3, e4, h2, h4, h15, hi0⟩ := C
  simp only at e2 e3 e4 h2 h4 h15 e7 hzc ht
  by_cases hk : k = 0
  · subst hk
    simp -implicitDefEqProofs only [go_sem, ↓reduceIte, Nat.reduceEqDiff, Nat.reduceAdd, Nat.reduceSub, Nat.reduceMul, Nat.reduceLeDiff, Nat.reduceLT, Nat.reduceBEq, Nat.reduceBNe, reduceCtorEq, beq_self_eq_true, Int.toNat_natCast, List.length_map, List.length_nil, Int.reduceToNat, Int.reduceAdd, Int.reduceSub, Int.reduceMul, Int.reduceLT, Int.reduceLE, Int.reduceEq, Int.reduceBEq, Int.reduceNeg, decide_true, decide_false, Nat.le_max_left, Nat.le_max_right, ne_eq, not_true_eq_false, not_false_eq_true, Int.natCast_zero, gt_iff_lt, ge_iff_le, Int.reduceGT, Int.reduceGE, Bool.false_and, Bool.and_false, Bool.true_and, Bool.and_true, ir28_l4, e7]
    refine .exit ⟨rfl, os, i, zv, cv, tv, vv, rv, ov, ⟨?_, ?_, ?_, ?_, ?_, ?_, by omega⟩, hzc.keep ?_ ?_ ?_ ?_ ?_, ht.keep ?_, by omega, by omega, rg⟩ <;> simp -implicitDefEqProofs only [go_sem, ↓reduceIte, Nat.reduceEqDiff, Nat.reduceAdd, Nat.reduceSub, Nat.reduceMul, Nat.reduceLeDiff, Nat.reduceLT, Nat.reduceBEq, Nat.reduceBNe, reduceCtorEq, beq_self_eq_true, Int.toNat_natCast, List.length_map, List.length_nil, Int.reduceToNat, Int.reduceAdd, Int.reduceSub, Int.reduceMul, Int.reduceLT, Int.reduceLE, Int.reduceEq, Int.reduceBEq, Int.reduceNeg, decide_true, decide_false, Nat.le_max_left, Nat.le_max_right, ne_eq, not_true_eq_false, not_false_eq_true, Int.natCast_zero, gt_iff_lt, ge_iff_le, Int.reduceGT, Int.reduceGE, Bool.false_and, Bool.and_false, Bool.true_and, Bool.and_true, e2, e3, e4, h2, h4, h15]
  · have d1 : decide (0 < (k : Int)) = true := by simp; omega
    have w1 : IntKind.wrap .i64 ((k : Int) - 1) = ((k - 1 : Nat) : Int) := by rw [w64 (by omega) (by omega)]; omega
    obtain ⟨v1, i1, a1, b1, c1, d1', F1⟩ := Next_ex L i zs.length hL (by omega) (by omega) (by omega)
    have c1' : ¬ os.length + 1 ≤ os.length := by omega
    have c2' : (os.length + 1) * 8 ≤ 140737488355328 ∧ os.length ≤ 9223372036854775806 := by omega
    have ht' : List.take os.length (os.map eI) = os.map eI := List.take_of_length_le (by simp)
    have hz := hzc.z
    rcases hz with ⟨hz, rfl⟩ | ⟨hz, verz, rfl, hbz⟩
    · exfalso
      have : zs = [] := by simpa using hz
      subst this; simp at hz0
    have hm : ∀ t, t ∈ os ++ [v1] → 0 ≤ t ∧ t < zs.length := by
      intro t hx
      rcases List.mem_append.1 hx with hx | hx
      · exact rg t hx
      · simp at hx; subst hx; omega
    rcases ht with ⟨ht, rfl⟩ | ⟨ht, ver, rfl, hb⟩
    · simp -implicitDefEqProofs only [go_sem, ↓reduceIte, Nat.reduceEqDiff, Nat.reduceAdd, Nat.reduceSub, Nat.reduceMul, Nat.reduceLeDiff, Nat.reduceLT, Nat.reduceBEq, Nat.reduceBNe, reduceCtorEq, beq_self_eq_true, Int.toNat_natCast, List.length_map, List.length_nil, Int.reduceToNat, Int.reduceAdd, Int.reduceSub, Int.reduceMul, Int.reduceLT, Int.reduceLE, Int.reduceEq, Int.reduceBEq, Int.reduceNeg, decide_true, decide_false, Nat.le_max_left, Nat.le_max_right, ne_eq, not_true_eq_false, not_false_eq_true, Int.natCast_zero, gt_iff_lt, ge_iff_le, Int.reduceGT, Int.reduceGE, Bool.false_and, Bool.and_false, Bool.true_and, Bool.and_true, ir28_l4, e2, e3, e4, e7, h2, h4, h15, d1, w1, F1, hbz]
      refine .next (m := k - 1) (by omega) ⟨os ++ [v1], i1, _, _, _, _, .ms 163 ((hg H 163).ver + 1) 0 1 1, ov, ⟨?_, ?_, ?_, ?_, ?_, ?_, by omega⟩, hzc.keep ?_ ?_ ?_ ?_ ?_, SlB.mk ?_ ?_ ?_, by omega, ?_, by simp; omega, hm⟩ <;> simp -implicitDefEqProofs only [go_sem, ↓reduceIte, Nat.reduceEqDiff, Nat.reduceAdd, Nat.reduceSub, Nat.reduceMul, Nat.reduceLeDiff, Nat.reduceLT, Nat.reduceBEq, Nat.reduceBNe, reduceCtorEq, beq_self_eq_true, Int.toNat_natCast, List.length_map, List.length_nil, Int.reduceToNat, Int.reduceAdd, Int.reduceSub, Int.reduceMul, Int.reduceLT, Int.reduceLE, Int.reduceEq, Int.reduceBEq, Int.reduceNeg, decide_true, decide_false, Nat.le_max_left, Nat.le_max_right, ne_eq, not_true_eq_false, not_false_eq_true, Int.natCast_zero, gt_iff_lt, ge_iff_le, Int.reduceGT, Int.reduceGE, Bool.false_and, Bool.and_false, Bool.true_and, Bool.and_true, e2, e3, e4, e7, h2, h4, h15, w1, List.map_append, ht]
    · simp -implicitDefEqProofs only [go_sem, ↓reduceIte, Nat.reduceEqDiff, Nat.reduceAdd, Nat.reduceSub, Nat.reduceMul, Nat.reduceLeDiff, Nat.reduceLT, Nat.reduceBEq, Nat.reduceBNe, reduceCtorEq, beq_self_eq_true, Int.toNat_natCast, List.length_map, List.length_nil, Int.reduceToNat, Int.reduceAdd, Int.reduceSub, Int.reduceMul, Int.reduceLT, Int.reduceLE, Int.reduceEq, Int.reduceBEq, Int.reduceNeg, decide_true, decide_false, Nat.le_max_left, Nat.le_max_right, ne_eq, not_true_eq_false, not_false_eq_true, Int.natCast_zero, gt_iff_lt, ge_iff_le, Int.reduceGT, Int.reduceGE, Bool.false_and, Bool.and_false, Bool.true_and, Bool.and_true, ir28_l4, e2, e3, e4, e7, h2, h4, h15, d1, w1, F1, hbz, hb, c1', c2', ht']
      refine .next (m := k - 1) (by omega) ⟨os ++ [v1], i1, _, _, _, _, .ms 163 (ver + 1 + 1) 0 (os.length + 1) (os.length + 1), ov, ⟨?_, ?_, ?_, ?_, ?_, ?_, by omega⟩, hzc.keep ?_ ?_ ?_ ?_ ?_, SlB.mk ?_ ?_ ?_, by omega, ?_, by simp; omega, hm⟩ <;> simp -implicitDefEqProofs only [go_sem, ↓reduceIte, Nat.reduceEqDiff, Nat.reduceAdd, Nat.reduceSub, Nat.reduceMul, Nat.reduceLeDiff, Nat.reduceLT, Nat.reduceBEq, Nat.reduceBNe, reduceCtorEq, beq_self_eq_true, Int.toNat_natCast, List.length_map, List.length_nil, Int.reduceToNat, Int.reduceAdd, Int.reduceSub, Int.reduceMul, Int.reduceLT, Int.reduceLE, Int.reduceEq, Int.reduceBEq, Int.reduceNeg, decide_true, decide_false, Nat.le_max_left, Nat.le_max_right, ne_eq, not_true_eq_false, not_false_eq_true, Int.natCast_zero, gt_iff_lt, ge_iff_le, Int.reduceGT, Int.reduceGE, Bool.false_and, Bool.and_false, Bool.true_and, Bool.and_true, e2, e3, e4, e7, h2, h4, h15, w1, List.map_append, List.length_append]
def L5 (L : List Int) (r bl le ba : Int) (zs : List Int) (cs : List Cell) (ts : List Ten) (vs : List Ver) (rs : List Int) (N : Nat) (k : Nat) (s : VSt) : Prop := ∃ (os : List Int) (i : Nat) (zv cv tv vv rv ov : DV), CS L s i r bl le ba zv cv tv vv rv ov ∧ ZV r zs cs ts vs rs s.H zv cv tv vv rv ∧
  SlB s.H 179 1 (os.map eI) ov ∧ i + 10 * k ≤ 300 ∧ gt .bad s.E 13 = dI (k : Nat) ∧ os.length + k = N ∧ ∀ z, z ∈ os → 0 ≤ z ∧ z < zs.length
def Q5 (L : List Int) (r bl le ba : Int) (zs : List Int) (cs : List Cell) (ts : List Ten) (vs : List Ver) (rs : List Int) (N : Nat) (e : Ex) (s : VSt) : Prop := e = .exit 10 ∧ ∃ (os : List Int) (i : Nat) (zv cv tv vv rv ov : DV), CS L s i r bl le ba zv cv tv vv rv ov ∧ ZV r zs cs ts vs rs s.H zv cv tv vv rv ∧
  SlB s.H 179 1 (os.map eI) ov ∧ i ≤ 300 ∧ os.length = N ∧ ∀ z, z ∈ os → 0 ≤ z ∧ z < zs.length
theorem config_l5 (L : List Int) (hL : I64s L) (r bl le ba : Int) (zs : List Int) (hz0 : 1 ≤ zs.length) (hz6 : zs.length ≤ 6) (cs : List Cell) (ts : List Ten) (vs : List Ver) (rs : List Int) (N : Nat) (hN : N ≤ 4) : ∀ (k : Nat) s, L5 L r bl le ba zs cs ts vs rs N k s → Ok (R PP shF 0 182 (.loop ir28_l5) s) (Q5 L r bl le ba zs cs ts vs rs N) := by
  refine Ok_dn (L5 L r bl le ba zs cs ts vs rs N) fun k s hI => ?_
  obtain ⟨os, i, zv, cv, tv, vv, rv, ov, C, hzc, ht, hi, e7, len, rg⟩ := hI
  obtain ⟨E, H⟩ := s
  obtain ⟨e2, e3, e4, h2, h4, h15, hi0⟩ := C
  simp only at e2 e3 e4 h2 h4 h15 e7 hzc ht
  by_cases hk : k = 0
  · subst hk
    simp -implicitDefEqProofs only [go_sem, ↓reduceIte, Nat.reduceEqDiff, Nat.reduceAdd, Nat.reduceSub, Nat.reduceMul, Nat.reduceLeDiff, Nat.reduceLT, Nat.reduceBEq, Nat.reduceBNe, reduceCtorEq, beq_self_eq_true, Int.toNat_natCast, List.length_map, List.length_nil, Int.reduceToNat, Int.reduceAdd, Int.reduceSub, Int.reduceMul, Int.reduceLT, Int.reduceLE, Int.reduceEq, Int.reduceBEq, Int.reduceNeg, decide_true, decide_false, Nat.le_max_left, Nat.le_max_right, ne_eq, not_true_eq_false, not_false_eq_true, Int.natCast_zero, gt_iff_lt, ge_iff_le, Int.reduceGT, Int.reduceGE, Bool.false_and, Bool.and_false, Bool.true_and, Bool.and_true, ir28_l5, e7]
    refine .exit ⟨rfl, os, i, zv, cv, tv, vv, rv, ov, ⟨?_, ?_, ?_, ?_, ?_, ?_, by omega⟩, hzc.keep ?_ ?_ ?_ ?_ ?_ ?_, ht.keep ?_, by omega, by omega, rg⟩ <;> simp -implicitDefEqProofs only [go_sem, ↓reduceIte, Nat.reduceEqDiff, Nat.reduceAdd, Nat.reduceSub, Nat.reduceMul, Nat.reduceLeDiff, Nat.reduceLT, Nat.reduceBEq, Nat.reduceBNe, reduceCtorEq, beq_self_eq_true, Int.toNat_natCast, List.length_map, List.length_nil, Int.reduceToNat, Int.reduceAdd, Int.reduceSub, Int.reduceMul, Int.reduceLT, Int.reduceLE, Int.reduceEq, Int.reduceBEq, Int.reduceNeg, decide_true, decide_false, Nat.le_max_left, Nat.le_max_right, ne_eq, not_true_eq_false, not_false_eq_true, Int.natCast_zero, gt_iff_lt, ge_iff_le, Int.reduceGT, Int.reduceGE, Bool.false_and, Bool.and_false, Bool.true_and, Bool.and_true, e2, e3, e4, h2, h4, h15]
  · have d1 : decide (0 < (k : Int)) = true := by simp; omega
    have w1 : IntKind.wrap .i64 ((k : Int) - 1) = ((k - 1 : Nat) : Int) := by rw [w64 (by omega) (by omega)]; omega
    obtain ⟨v1, i1, a1, b1, c1, d1', F1⟩ := Next_ex L i zs.length hL (by omega) (by omega) (by omega)
    have c1' : ¬ os.length + 1 ≤ os.length := by omega
    have c2' : (os.length + 1) * 8 ≤ 140737488355328 ∧ os.length ≤ 9223372036854775806 := by omega
    have ht' : List.take os.length (os.map eI) = os.map eI := List.take_of_length_le (by simp)
    have hz := hzc.z
    rcases hz with ⟨hz, rfl⟩ | ⟨hz, verz, rfl, hbz⟩
    · exfalso
      have : zs = [] := by simpa using hz
      subst this; simp at hz0
    have hm : ∀ t, t ∈ os ++ [v1] → 0 ≤ t ∧ t < zs.length := by
      intro t hx
      rcases List.mem_append.1 hx with hx | hx
      · exact rg t hx
      · simp at hx; subst hx; omega
    rcases ht with ⟨ht, rfl⟩ | ⟨ht, ver, rfl, hb⟩
    · simp -implicitDefEqProofs only [go_sem, ↓reduceIte, Nat.reduceEqDiff, Nat.reduceAdd, Nat.reduceSub, Nat.reduceMul, Nat.reduceLeDiff, Nat.reduceLT, Nat.reduceBEq, Nat.reduceBNe, reduceCtorEq, beq_self_eq_true, Int.toNat_natCast, List.length_map, List.length_nil, Int.reduceToNat, Int.reduceAdd, Int.reduceSub, Int.reduceMul, Int.reduceLT, Int.reduceLE, Int.reduceEq, Int.reduceBEq, Int.reduceNeg, decide_true, decide_false, Nat.le_max_left, Nat.le_max_right, ne_eq, not_true_eq_false, not_false_eq_true, Int.natCast_zero, gt_iff_lt, ge_iff_le, Int.reduceGT, Int.reduceGE, Bool.false_and, Bool.and_false, Bool.true_and, Bool.and_true, ir28_l5, e2, e3, e4, e7, h2, h4, h15, d1, w1, F1, hbz]
      refine .next (m := k - 1) (by omega) ⟨os ++ [v1], i1, _, _, _, _, rv, .ms 179 ((hg H 179).ver + 1) 0 1 1, ⟨?_, ?_, ?_, ?_, ?_, ?_, by omega⟩, hzc.keep ?_ ?_ ?_ ?_ ?_ ?_, SlB.mk ?_ ?_ ?_, by omega, ?_, by simp; omega, hm⟩ <;> simp -implicitDefEqProofs only [go_sem, ↓reduceIte, Nat.reduceEqDiff, Nat.reduceAdd, Nat.reduceSub, Nat.reduceMul, Nat.reduceLeDiff, Nat.reduceLT, Nat.reduceBEq, Nat.reduceBNe, reduceCtorEq, beq_self_eq_true, Int.toNat_natCast, List.length_map, List.length_nil, Int.reduceToNat, Int.reduceAdd, Int.reduceSub, Int.reduceMul, Int.reduceLT, Int.reduceLE, Int.reduceEq, Int.reduceBEq, Int.reduceNeg, decide_true, decide_false, Nat.le_max_left, Nat.le_max_right, ne_eq, not_true_eq_false, not_false_eq_true, Int.natCast_zero, gt_iff_lt, ge_iff_le, Int.reduceGT, Int.reduceGE, Bool.false_and, Bool.and_false, Bool.true_and, Bool.and_true, e2, e3, e4, e7, h2, h4, h15, w1, List.map_append, ht]
    · simp -implicitDefEqProofs only [go_sem, ↓reduceIte, Nat.reduceEqDiff, Nat.reduceAdd, Nat.reduceSub, Nat.reduceMul, Nat.reduceLeDiff, Nat.reduceLT, Nat.reduceBEq, Nat.reduceBNe, reduceCtorEq, beq_self_eq_true, Int.toNat_natCast, List.length_map, List.length_nil, Int.reduceToNat, Int.reduceAdd, Int.reduceSub, Int.reduceMul, Int.reduceLT, Int.reduceLE, Int.reduceEq, Int.reduceBEq, Int.reduceNeg, decide_true, decide_false, Nat.le_max_left, Nat.le_max_right, ne_eq, not_true_eq_false, not_false_eq_true, Int.natCast_zero, gt_iff_lt, ge_iff_le, Int.reduceGT, Int.reduceGE, Bool.false_and, Bool.and_false, Bool.true_and, Bool.and_true, ir28_l5, e2, e3, e4, e7, h2, h4, h15, d1, w1, F1, hbz, hb, c1', c2', ht']
      refine .next (m := k - 1) (by omega) ⟨os ++ [v1], i1, _, _, _, _, rv, .ms 179 (ver + 1 + 1) 0 (os.length + 1) (os.length + 1), ⟨?_, ?_, ?_, ?_, ?_, ?_, by omega⟩, hzc.keep ?_ ?_ ?_ ?_ ?_ ?_, SlB.mk ?_ ?_ ?_, by omega, ?_, by simp; omega, hm⟩ <;> simp -implicitDefEqProofs only [go_sem, ↓reduceIte, Nat.reduceEqDiff, Nat.reduceAdd, Nat.reduceSub, Nat.reduceMul, Nat.reduceLeDiff, Nat.reduceLT, Nat.reduceBEq, Nat.reduceBNe, reduceCtorEq, beq_self_eq_true, Int.toNat_natCast, List.length_map, List.length_nil, Int.reduceToNat, Int.reduceAdd, Int.reduceSub, Int.reduceMul, Int.reduceLT, Int.reduceLE, Int.reduceEq, Int.reduceBEq, Int.reduceNeg, decide_true, decide_false, Nat.le_max_left, Nat.le_max_right, ne_eq, not_true_eq_false, not_false_eq_true, Int.natCast_zero, gt_iff_lt, ge_iff_le, Int.reduceGT, Int.reduceGE, Bool.false_and, Bool.and_false, Bool.true_and, Bool.and_true, e2, e3, e4, e7, h2, h4, h15, w1, List.map_append, List.length_append]
/-- What every configuration out of a tape is. -/
structure ConfOk (k : Conf) : Prop where
  r0 : 1 ≤ k.regions
  r1 : k.regions ≤ 3
  z0 : k.regions ≤ (k.zones.length : Int)
  z1 : k.zones.length ≤ 6
  zs : ∀ z, z ∈ k.zones → 0 ≤ z ∧ z < k.regions
  c0 : k.zones.length ≤ k.cells.length
  c1 : k.cells.length ≤ 7
  cs : ∀ x, x ∈ k.cells → 0 ≤ x.zone ∧ x.zone < (k.zones.length : Int) ∧ 10 ≤ x.cap ∧ x.cap ≤ 40
  t1 : k.tens.length ≤ 5
  ts : ∀ x, x ∈ k.tens → TenOk k.regions x
  v0 : k.vers ≠ []
  v1 : k.vers.length ≤ 3
  vs : ∀ x, x ∈ k.vers → VerOk x
  vh : ∀ v, k.vers.head? = some v → v.low = 0
  ps : k.reps.length = 1 ∨ k.reps.length = 3
  pz : ∀ z, z ∈ k.reps → 0 ≤ z ∧ z < (k.zones.length : Int)
  o0 : 1 ≤ k.obs.length
  o1 : k.obs.length ≤ 4
  oz : ∀ z, z ∈ k.obs → 0 ≤ z ∧ z < (k.zones.length : Int)
  b0 : 1 ≤ k.blast
  b1 : k.blast ≤ 3
  l0 : 2 ≤ k.lease
  l1 : k.lease ≤ 12
  k0 : 0 ≤ k.bake
  k1 : k.bake ≤ 8
theorem closed_eI (l : List Int) : (l.map eI).all closedL = true := by simp [List.all_eq_true, closedL, closedD]
theorem closed_eC (l : List Cell) : (l.map eC).all closedL = true := by simp [List.all_eq_true, closedL, closedD]
theorem closed_eT (l : List Ten) : (l.map eT).all closedL = true := by simp [List.all_eq_true, closedL, closedD]
theorem closed_eV (l : List Ver) : (l.map eV).all closedL = true := by simp [List.all_eq_true, closedL, closedD]
theorem lits_eI (l : List Int) : (l.map eI).all (fun el => el.all lit1) = true := by simp [List.all_eq_true, lit1]
theorem SlV.frz {H : VHeap} {vs : List Ver} {v : DV} (h : SlV H vs v) (n : Nat) : frzD H (n + 1) v = some (.sl (vs.map eV)) := by
  obtain ⟨_, b, ver, _, rfl, hb⟩ := h
  rw [frz_ms, hb]
  have ht : List.take vs.length (vs.map eV) = vs.map eV := List.take_of_length_le (by simp)
  simp only [VB.part, Nat.zero_add, Nat.le_refl, and_self, ne_eq, ↓reduceIte, List.drop_zero, List.length_map, ht, Option.bind_some, closed_eV, Nat.reduceEqDiff, not_false_eq_true, reduceCtorEq, and_true, true_and]
theorem SlV.one {H : VHeap} {vs : List Ver} {v : DV} (h : SlV H vs v) : oneD v = true := by
  obtain ⟨_, b, ver, _, rfl, _⟩ := h; rfl
theorem FV_Config (l : List Int) (hl : I64s l) : ∃ c, ConfOk c ∧ FV PP shF 28 [dL l] = some (.agg (eK c)) := by
  obtain ⟨v1, i1, a1, b1, c1, d1, F1⟩ := Next_ex l 0 5 hl (by omega) (by omega) (by omega)
  obtain ⟨v2, i2, a2, b2, c2, d2, F2⟩ := Range_ex l i1 1 3 hl (by omega) (by omega) (by omega) (by omega)
  obtain ⟨v3, i3, a3, b3, c3, d3, F3⟩ := Range_ex l i2 2 12 hl (by omega) (by omega) (by omega) (by omega)
  obtain ⟨v4, i4, a4, b4, c4, d4, F4⟩ := Next_ex l i3 9 hl (by omega) (by omega) (by omega)
  have w1 : IntKind.wrap .i64 (v1 + 1) = v1 + 1 := w64 (by omega) (by omega)
  have B1 := FV_Between (v1 + 1) 1 3 ⟨by omega, by omega⟩ (by omega) (by omega) (by omega)
  have hr : 1 ≤ 1 + (v1 + 1) % (3 - 1 + 1) ∧ 1 + (v1 + 1) % (3 - 1 + 1) ≤ 3 := by omega
  generalize 1 + (v1 + 1) % (3 - 1 + 1) = r at B1 hr
  suffices hs : OkF (F PP shF 28 [dL l] [] 0) (fun d H => ∃ c, ConfOk c ∧ frzD H 6 d = some (.agg (eK c))) by
    obtain ⟨d, H, h1, c, h2, h3⟩ := hs
    exact ⟨c, h2, FV_of h1 h3⟩
  refine F_ok PP28 rfl ⟨by simp [ir28], by simp⟩ ?_
  simp -implicitDefEqProofs only [go_sem, ↓reduceIte, Nat.reduceEqDiff, Nat.reduceAdd, Nat.reduceSub, Nat.reduceMul, Nat.reduceLeDiff, Nat.reduceLT, Nat.reduceBEq, Nat.reduceBNe, reduceCtorEq, beq_self_eq_true, Int.toNat_natCast, List.length_map, List.length_nil, Int.reduceToNat, Int.reduceAdd, Int.reduceSub, Int.reduceMul, Int.reduceLT, Int.reduceLE, Int.reduceEq, Int.reduceBEq, Int.reduceNeg, decide_true, decide_false, Nat.le_max_left, Nat.le_max_right, ne_eq, not_true_eq_false, not_false_eq_true, Int.natCast_zero, gt_iff_lt, ge_iff_le, Int.reduceGT, Int.reduceGE, Bool.false_and, Bool.and_false, Bool.true_and, Bool.and_true, ir28, vp_New, F1, F2, F3, F4, w1, vpS B1 rfl]
  refine (config_l0 l hl r v2 v3 v4 hr 0 _ ?_).mono ?_
  · refine ⟨[], i4, _, ⟨?_, ?_, ?_, ?_, ?_, ?_, by omega⟩, SlB.nil, by omega, ?_, rfl, by omega, by simp⟩ <;> simp -implicitDefEqProofs only [go_sem, ↓reduceIte, Nat.reduceEqDiff, Nat.reduceAdd, Nat.reduceSub, Nat.reduceMul, Nat.reduceLeDiff, Nat.reduceLT, Nat.reduceBEq, Nat.reduceBNe, reduceCtorEq, beq_self_eq_true, Int.toNat_natCast, List.length_map, List.length_nil, Int.reduceToNat, Int.reduceAdd, Int.reduceSub, Int.reduceMul, Int.reduceLT, Int.reduceLE, Int.reduceEq, Int.reduceBEq, Int.reduceNeg, decide_true, decide_false, Nat.le_max_left, Nat.le_max_right, ne_eq, not_true_eq_false, not_false_eq_true, Int.natCast_zero, gt_iff_lt, ge_iff_le, Int.reduceGT, Int.reduceGE, Bool.false_and, Bool.and_false, Bool.true_and, Bool.and_true, ]
  rintro e ⟨E, H⟩ ⟨rfl, zs, i, zv, ⟨e2, e3, e4, h2, h4, h15, hi0⟩, hz, hi, hzr, hz6, rgz⟩
  simp only at e2 e3 e4 h2 h4 h15 hz
  simp -implicitDefEqProofs only [go_sem, ↓reduceIte, Nat.reduceEqDiff, Nat.reduceAdd, Nat.reduceSub, Nat.reduceMul, Nat.reduceLeDiff, Nat.reduceLT, Nat.reduceBEq, Nat.reduceBNe, reduceCtorEq, beq_self_eq_true, Int.toNat_natCast, List.length_map, List.length_nil, Int.reduceToNat, Int.reduceAdd, Int.reduceSub, Int.reduceMul, Int.reduceLT, Int.reduceLE, Int.reduceEq, Int.reduceBEq, Int.reduceNeg, decide_true, decide_false, Nat.le_max_left, Nat.le_max_right, ne_eq, not_true_eq_false, not_false_eq_true, Int.natCast_zero, gt_iff_lt, ge_iff_le, Int.reduceGT, Int.reduceGE, Bool.false_and, Bool.and_false, Bool.true_and, Bool.and_true, ]
  refine (config_l1 l hl r v2 v3 v4 zs (by omega) hz6 0 _ ?_).mono ?_
  · refine ⟨[], i, zv, _, ⟨?_, ?_, ?_, ?_, ?_, ?_, by omega⟩, hz.keep ?_, SlB.nil, by omega, ?_, rfl, by omega, by simp⟩ <;> simp -implicitDefEqProofs only [go_sem, ↓reduceIte, Nat.reduceEqDiff, Nat.reduceAdd, Nat.reduceSub, Nat.reduceMul, Nat.reduceLeDiff, Nat.reduceLT, Nat.reduceBEq, Nat.reduceBNe, reduceCtorEq, beq_self_eq_true, Int.toNat_natCast, List.length_map, List.length_nil, Int.reduceToNat, Int.reduceAdd, Int.reduceSub, Int.reduceMul, Int.reduceLT, Int.reduceLE, Int.reduceEq, Int.reduceBEq, Int.reduceNeg, decide_true, decide_false, Nat.le_max_left, Nat.le_max_right, ne_eq, not_true_eq_false, not_false_eq_true, Int.natCast_zero, gt_iff_lt, ge_iff_le, Int.reduceGT, Int.reduceGE, Bool.false_and, Bool.and_false, Bool.true_and, Bool.and_true, e2, e3, e4, h2, h4, h15]
  clear e2 e3 e4 h2 h4 h15 hz hi hi0 F1 F2 F3 F4 c1 c2 c3 c4 d1 d2 d3 d4 B1
  rintro e ⟨E, H⟩ ⟨rfl, cs, i, zv, cv, ⟨e2, e3, e4, h2, h4, h15, hi0⟩, hz, hc, hi, hc0, hc7, rgc⟩
  simp only at e2 e3 e4 h2 h4 h15 hz hc
  obtain ⟨u1, j1, p1, q1, c1, d1, F1⟩ := Next_ex l i 6 hl (by omega) (by omega) (by omega)
  simp -implicitDefEqProofs only [go_sem, ↓reduceIte, Nat.reduceEqDiff, Nat.reduceAdd, Nat.reduceSub, Nat.reduceMul, Nat.reduceLeDiff, Nat.reduceLT, Nat.reduceBEq, Nat.reduceBNe, reduceCtorEq, beq_self_eq_true, Int.toNat_natCast, List.length_map, List.length_nil, Int.reduceToNat, Int.reduceAdd, Int.reduceSub, Int.reduceMul, Int.reduceLT, Int.reduceLE, Int.reduceEq, Int.reduceBEq, Int.reduceNeg, decide_true, decide_false, Nat.le_max_left, Nat.le_max_right, ne_eq, not_true_eq_false, not_false_eq_true, Int.natCast_zero, gt_iff_lt, ge_iff_le, Int.reduceGT, Int.reduceGE, Bool.false_and, Bool.and_false, Bool.true_and, Bool.and_true, e3, h15, F1]
  have hu1 : u1 = ((u1.toNat : Nat) : Int) := by omega
  refine (config_l2 l hl r v2 v3 v4 hr zs cs u1.toNat _ ?_).mono ?_
  · refine ⟨[], j1, zv, cv, _, ⟨?_, ?_, ?_, ?_, ?_, ?_, by omega⟩, ⟨hz.keep ?_, hc.keep ?_⟩, SlB.nil, by omega, ?_, by simp; omega, by simp⟩ <;> simp -implicitDefEqProofs only [go_sem, ↓reduceIte, Nat.reduceEqDiff, Nat.reduceAdd, Nat.reduceSub, Nat.reduceMul, Nat.reduceLeDiff, Nat.reduceLT, Nat.reduceBEq, Nat.reduceBNe, reduceCtorEq, beq_self_eq_true, Int.toNat_natCast, List.length_map, List.length_nil, Int.reduceToNat, Int.reduceAdd, Int.reduceSub, Int.reduceMul, Int.reduceLT, Int.reduceLE, Int.reduceEq, Int.reduceBEq, Int.reduceNeg, decide_true, decide_false, Nat.le_max_left, Nat.le_max_right, ne_eq, not_true_eq_false, not_false_eq_true, Int.natCast_zero, gt_iff_lt, ge_iff_le, Int.reduceGT, Int.reduceGE, Bool.false_and, Bool.and_false, Bool.true_and, Bool.and_true, e2, e3, e4, h2, h4, h15]
    rw [← hu1]
  clear e2 e3 e4 h2 h4 h15 hz hc hi hi0 F1 c1 d1 hu1
  rintro e ⟨E, H⟩ ⟨rfl, ts, i, zv, cv, tv, ⟨e2, e3, e4, h2, h4, h15, hi0⟩, hzc, ht, hi, ht5, rgt⟩
  simp only at e2 e3 e4 h2 h4 h15 hzc ht
  obtain ⟨x1, j1, p1, q1, c1, d1, F1⟩ := Next_ex l i 3 hl (by omega) (by omega) (by omega)
  obtain ⟨x2, j2, p2, q2, c2, d2, F2⟩ := Next_ex l j1 3 hl (by omega) (by omega) (by omega)
  simp -implicitDefEqProofs only [go_sem, ↓reduceIte, Nat.reduceEqDiff, Nat.reduceAdd, Nat.reduceSub, Nat.reduceMul, Nat.reduceLeDiff, Nat.reduceLT, Nat.reduceBEq, Nat.reduceBNe, reduceCtorEq, beq_self_eq_true, Int.toNat_natCast, List.length_map, List.length_nil, Int.reduceToNat, Int.reduceAdd, Int.reduceSub, Int.reduceMul, Int.reduceLT, Int.reduceLE, Int.reduceEq, Int.reduceBEq, Int.reduceNeg, decide_true, decide_false, Nat.le_max_left, Nat.le_max_right, ne_eq, not_true_eq_false, not_false_eq_true, Int.natCast_zero, gt_iff_lt, ge_iff_le, Int.reduceGT, Int.reduceGE, Bool.false_and, Bool.and_false, Bool.true_and, Bool.and_true, e3, e4, h4, h15, F1, F2]
  have hu1 : x2 = ((x2.toNat : Nat) : Int) := by omega
  refine (config_l3 l hl r v2 v3 v4 zs cs ts x2.toNat _ ?_).mono ?_
  · refine ⟨[⟨0, x1⟩], j2, zv, cv, tv, .ms 126 ((hg H 126).ver + 1) 0 1 1, ⟨?_, ?_, ?_, ?_, ?_, ?_, by omega⟩, ⟨hzc.z.keep ?_, hzc.c.keep ?_, ht.keep ?_⟩, ⟨by simp, 126, (hg H 126).ver + 1, .inl rfl, ?_, ?_⟩, by omega, ?_, by simp; omega, ?_, by simp⟩ <;> (try simp -implicitDefEqProofs only [go_sem, ↓reduceIte, Nat.reduceEqDiff, Nat.reduceAdd, Nat.reduceSub, Nat.reduceMul, Nat.reduceLeDiff, Nat.reduceLT, Nat.reduceBEq, Nat.reduceBNe, reduceCtorEq, beq_self_eq_true, Int.toNat_natCast, List.length_map, List.length_nil, Int.reduceToNat, Int.reduceAdd, Int.reduceSub, Int.reduceMul, Int.reduceLT, Int.reduceLE, Int.reduceEq, Int.reduceBEq, Int.reduceNeg, decide_true, decide_false, Nat.le_max_left, Nat.le_max_right, ne_eq, not_true_eq_false, not_false_eq_true, Int.natCast_zero, gt_iff_lt, ge_iff_le, Int.reduceGT, Int.reduceGE, Bool.false_and, Bool.and_false, Bool.true_and, Bool.and_true, e2, e3, e4, h2, h4, h15])
    · rw [← hu1]
    · intro v hv
      simp at hv; subst hv
      constructor <;> simp only <;> omega
  clear e2 e3 e4 h2 h4 h15 hzc ht hi hi0 F1 F2 c1 d1 c2 d2 hu1
  rintro e ⟨E, H⟩ ⟨rfl, vs, i, zv, cv, tv, vv, ⟨e2, e3, e4, h2, h4, h15, hi0⟩, hzc, hv, hi, hv3, rgv, hvh⟩
  simp only at e2 e3 e4 h2 h4 h15 hzc hv
  obtain ⟨y1, j1, p1, q1, c1, d1, F1⟩ := Next_ex l i 2 hl (by omega) (by omega) (by omega)
  have w2 : IntKind.wrap .i64 (2 * y1) = 2 * y1 := w64 (by omega) (by omega)
  have w3 : IntKind.wrap .i64 (2 * y1 + 1) = 2 * y1 + 1 := w64 (by omega) (by omega)
  simp -implicitDefEqProofs only [go_sem, ↓reduceIte, Nat.reduceEqDiff, Nat.reduceAdd, Nat.reduceSub, Nat.reduceMul, Nat.reduceLeDiff, Nat.reduceLT, Nat.reduceBEq, Nat.reduceBNe, reduceCtorEq, beq_self_eq_true, Int.toNat_natCast, List.length_map, List.length_nil, Int.reduceToNat, Int.reduceAdd, Int.reduceSub, Int.reduceMul, Int.reduceLT, Int.reduceLE, Int.reduceEq, Int.reduceBEq, Int.reduceNeg, decide_true, decide_false, Nat.le_max_left, Nat.le_max_right, ne_eq, not_true_eq_false, not_false_eq_true, Int.natCast_zero, gt_iff_lt, ge_iff_le, Int.reduceGT, Int.reduceGE, Bool.false_and, Bool.and_false, Bool.true_and, Bool.and_true, e3, e4, h4, h15, F1, w2, w3]
  have hu1 : 2 * y1 + 1 = (((2 * y1 + 1).toNat : Nat) : Int) := by omega
  refine (config_l4 l hl r v2 v3 v4 zs (by omega) hz6 cs ts vs [] (2 * y1 + 1).toNat (by omega) (2 * y1 + 1).toNat _ ?_).mono ?_
  · refine ⟨[], j1, zv, cv, tv, vv, _, .bad, ⟨?_, ?_, ?_, ?_, ?_, ?_, by omega⟩, ⟨hzc.z.keep ?_, hzc.c.keep ?_, hzc.t.keep ?_, hv.keep ?_ ?_⟩, SlB.nil, by omega, ?_, by simp, by simp⟩ <;> simp -implicitDefEqProofs only [go_sem, ↓reduceIte, Nat.reduceEqDiff, Nat.reduceAdd, Nat.reduceSub, Nat.reduceMul, Nat.reduceLeDiff, Nat.reduceLT, Nat.reduceBEq, Nat.reduceBNe, reduceCtorEq, beq_self_eq_true, Int.toNat_natCast, List.length_map, List.length_nil, Int.reduceToNat, Int.reduceAdd, Int.reduceSub, Int.reduceMul, Int.reduceLT, Int.reduceLE, Int.reduceEq, Int.reduceBEq, Int.reduceNeg, decide_true, decide_false, Nat.le_max_left, Nat.le_max_right, ne_eq, not_true_eq_false, not_false_eq_true, Int.natCast_zero, gt_iff_lt, ge_iff_le, Int.reduceGT, Int.reduceGE, Bool.false_and, Bool.and_false, Bool.true_and, Bool.and_true, e2, e3, e4, h2, h4, h15]
    rw [← hu1]
  clear e2 e3 e4 h2 h4 h15 hzc hv hi hi0 F1 c1 d1 hu1
  rintro e ⟨E, H⟩ ⟨rfl, rs, i, zv, cv, tv, vv, rv, ov, ⟨e2, e3, e4, h2, h4, h15, hi0⟩, hzc, hrs, hi, hrl, rgr⟩
  simp only at e2 e3 e4 h2 h4 h15 hzc hrs
  obtain ⟨o1, j1, p3, q3, c1, d1, F1⟩ := Range_ex l i 1 4 hl (by omega) (by omega) (by omega) (by omega)
  simp -implicitDefEqProofs only [go_sem, ↓reduceIte, Nat.reduceEqDiff, Nat.reduceAdd, Nat.reduceSub, Nat.reduceMul, Nat.reduceLeDiff, Nat.reduceLT, Nat.reduceBEq, Nat.reduceBNe, reduceCtorEq, beq_self_eq_true, Int.toNat_natCast, List.length_map, List.length_nil, Int.reduceToNat, Int.reduceAdd, Int.reduceSub, Int.reduceMul, Int.reduceLT, Int.reduceLE, Int.reduceEq, Int.reduceBEq, Int.reduceNeg, decide_true, decide_false, Nat.le_max_left, Nat.le_max_right, ne_eq, not_true_eq_false, not_false_eq_true, Int.natCast_zero, gt_iff_lt, ge_iff_le, Int.reduceGT, Int.reduceGE, Bool.false_and, Bool.and_false, Bool.true_and, Bool.and_true, e3, e4, h4, h15, F1]
  have hu1 : o1 = ((o1.toNat : Nat) : Int) := by omega
  refine (config_l5 l hl r v2 v3 v4 zs (by omega) hz6 cs ts vs rs o1.toNat (by omega) o1.toNat _ ?_).mono ?_
  · refine ⟨[], j1, zv, cv, tv, vv, rv, _, ⟨?_, ?_, ?_, ?_, ?_, ?_, by omega⟩, ⟨hzc.z.keep ?_, hzc.c.keep ?_, hzc.t.keep ?_, hzc.v.keep ?_ ?_, hrs.keep ?_⟩, SlB.nil, by omega, ?_, by simp, by simp⟩ <;> simp -implicitDefEqProofs only [go_sem, ↓reduceIte, Nat.reduceEqDiff, Nat.reduceAdd, Nat.reduceSub, Nat.reduceMul, Nat.reduceLeDiff, Nat.reduceLT, Nat.reduceBEq, Nat.reduceBNe, reduceCtorEq, beq_self_eq_true, Int.toNat_natCast, List.length_map, List.length_nil, Int.reduceToNat, Int.reduceAdd, Int.reduceSub, Int.reduceMul, Int.reduceLT, Int.reduceLE, Int.reduceEq, Int.reduceBEq, Int.reduceNeg, decide_true, decide_false, Nat.le_max_left, Nat.le_max_right, ne_eq, not_true_eq_false, not_false_eq_true, Int.natCast_zero, gt_iff_lt, ge_iff_le, Int.reduceGT, Int.reduceGE, Bool.false_and, Bool.and_false, Bool.true_and, Bool.and_true, e2, e3, e4, h2, h4, h15]
    rw [← hu1]
  clear e2 e3 e4 h2 h4 h15 hzc hrs hi hi0 F1 c1 d1 hu1
  rintro e ⟨E, H⟩ ⟨rfl, os, i, zv, cv, tv, vv, rv, ov, ⟨e2, e3, e4, h2, h4, h15, hi0⟩, hzc, hos, hi, hol, rgo⟩
  simp only at e2 e3 e4 h2 h4 h15 hzc hos
  simp -implicitDefEqProofs only [go_sem, ↓reduceIte, Nat.reduceEqDiff, Nat.reduceAdd, Nat.reduceSub, Nat.reduceMul, Nat.reduceLeDiff, Nat.reduceLT, Nat.reduceBEq, Nat.reduceBNe, reduceCtorEq, beq_self_eq_true, Int.toNat_natCast, List.length_map, List.length_nil, Int.reduceToNat, Int.reduceAdd, Int.reduceSub, Int.reduceMul, Int.reduceLT, Int.reduceLE, Int.reduceEq, Int.reduceBEq, Int.reduceNeg, decide_true, decide_false, Nat.le_max_left, Nat.le_max_right, ne_eq, not_true_eq_false, not_false_eq_true, Int.natCast_zero, gt_iff_lt, ge_iff_le, Int.reduceGT, Int.reduceGE, Bool.false_and, Bool.and_false, Bool.true_and, Bool.and_true, e2, e4, h2, h4, h15, hzc.z.one, hzc.c.one, hzc.t.one, hzc.v.one, hzc.r.one, hos.one]
  refine ⟨⟨r, zs, cs, ts, vs, rs, os, v2, v3, v4⟩, ?_, ?_⟩
  · exact ⟨hr.1, hr.2, hzr, hz6, rgz, hc0, hc7, rgc, ht5, rgt, hzc.v.1, hv3, rgv, hvh, by simp only; omega, rgr, by simp only; omega, by simp only; omega, rgo, a2, b2, a3, b3, a4, by simp only; omega⟩
  · have K1 : ∀ x, frzD (hs H 2 x) 5 zv = some (.sl (zs.map eI)) := fun x => (hzc.z.keep (by simp -implicitDefEqProofs only [go_sem, ↓reduceIte, Nat.reduceEqDiff, Nat.reduceAdd, Nat.reduceSub, Nat.reduceMul, Nat.reduceLeDiff, Nat.reduceLT, Nat.reduceBEq, Nat.reduceBNe, reduceCtorEq, beq_self_eq_true, Int.toNat_natCast, List.length_map, List.length_nil, Int.reduceToNat, Int.reduceAdd, Int.reduceSub, Int.reduceMul, Int.reduceLT, Int.reduceLE, Int.reduceEq, Int.reduceBEq, Int.reduceNeg, decide_true, decide_false, Nat.le_max_left, Nat.le_max_right, ne_eq, not_true_eq_false, not_false_eq_true, Int.natCast_zero, gt_iff_lt, ge_iff_le, Int.reduceGT, Int.reduceGE, Bool.false_and, Bool.and_false, Bool.true_and, Bool.and_true, ])).frz (by decide) (closed_eI _) 4
    have K2 : ∀ x, frzD (hs H 2 x) 5 cv = some (.sl (cs.map eC)) := fun x => (hzc.c.keep (by simp -implicitDefEqProofs only [go_sem, ↓reduceIte, Nat.reduceEqDiff, Nat.reduceAdd, Nat.reduceSub, Nat.reduceMul, Nat.reduceLeDiff, Nat.reduceLT, Nat.reduceBEq, Nat.reduceBNe, reduceCtorEq, beq_self_eq_true, Int.toNat_natCast, List.length_map, List.length_nil, Int.reduceToNat, Int.reduceAdd, Int.reduceSub, Int.reduceMul, Int.reduceLT, Int.reduceLE, Int.reduceEq, Int.reduceBEq, Int.reduceNeg, decide_true, decide_false, Nat.le_max_left, Nat.le_max_right, ne_eq, not_true_eq_false, not_false_eq_true, Int.natCast_zero, gt_iff_lt, ge_iff_le, Int.reduceGT, Int.reduceGE, Bool.false_and, Bool.and_false, Bool.true_and, Bool.and_true, ])).frz (by decide) (closed_eC _) 4
    have K3 : ∀ x, frzD (hs H 2 x) 5 tv = some (.sl (ts.map eT)) := fun x => (hzc.t.keep (by simp -implicitDefEqProofs only [go_sem, ↓reduceIte, Nat.reduceEqDiff, Nat.reduceAdd, Nat.reduceSub, Nat.reduceMul, Nat.reduceLeDiff, Nat.reduceLT, Nat.reduceBEq, Nat.reduceBNe, reduceCtorEq, beq_self_eq_true, Int.toNat_natCast, List.length_map, List.length_nil, Int.reduceToNat, Int.reduceAdd, Int.reduceSub, Int.reduceMul, Int.reduceLT, Int.reduceLE, Int.reduceEq, Int.reduceBEq, Int.reduceNeg, decide_true, decide_false, Nat.le_max_left, Nat.le_max_right, ne_eq, not_true_eq_false, not_false_eq_true, Int.natCast_zero, gt_iff_lt, ge_iff_le, Int.reduceGT, Int.reduceGE, Bool.false_and, Bool.and_false, Bool.true_and, Bool.and_true, ])).frz (by decide) (closed_eT _) 4
    have K4 : ∀ x, frzD (hs H 2 x) 5 vv = some (.sl (vs.map eV)) := fun x => (hzc.v.keep (by simp -implicitDefEqProofs only [go_sem, ↓reduceIte, Nat.reduceEqDiff, Nat.reduceAdd, Nat.reduceSub, Nat.reduceMul, Nat.reduceLeDiff, Nat.reduceLT, Nat.reduceBEq, Nat.reduceBNe, reduceCtorEq, beq_self_eq_true, Int.toNat_natCast, List.length_map, List.length_nil, Int.reduceToNat, Int.reduceAdd, Int.reduceSub, Int.reduceMul, Int.reduceLT, Int.reduceLE, Int.reduceEq, Int.reduceBEq, Int.reduceNeg, decide_true, decide_false, Nat.le_max_left, Nat.le_max_right, ne_eq, not_true_eq_false, not_false_eq_true, Int.natCast_zero, gt_iff_lt, ge_iff_le, Int.reduceGT, Int.reduceGE, Bool.false_and, Bool.and_false, Bool.true_and, Bool.and_true, ]) (by simp -implicitDefEqProofs only [go_sem, ↓reduceIte, Nat.reduceEqDiff, Nat.reduceAdd, Nat.reduceSub, Nat.reduceMul, Nat.reduceLeDiff, Nat.reduceLT, Nat.reduceBEq, Nat.reduceBNe, reduceCtorEq, beq_self_eq_true, Int.toNat_natCast, List.length_map, List.length_nil, Int.reduceToNat, Int.reduceAdd, Int.reduceSub, Int.reduceMul, Int.reduceLT, Int.reduceLE, Int.reduceEq, Int.reduceBEq, Int.reduceNeg, decide_true, decide_false, Nat.le_max_left, Nat.le_max_right, ne_eq, not_true_eq_false, not_false_eq_true, Int.natCast_zero, gt_iff_lt, ge_iff_le, Int.reduceGT, Int.reduceGE, Bool.false_and, Bool.and_false, Bool.true_and, Bool.and_true, ])).frz 4
    have K5 : ∀ x, frzD (hs H 2 x) 5 rv = some (.sl (rs.map eI)) := fun x => (hzc.r.keep (by simp -implicitDefEqProofs only [go_sem, ↓reduceIte, Nat.reduceEqDiff, Nat.reduceAdd, Nat.reduceSub, Nat.reduceMul, Nat.reduceLeDiff, Nat.reduceLT, Nat.reduceBEq, Nat.reduceBNe, reduceCtorEq, beq_self_eq_true, Int.toNat_natCast, List.length_map, List.length_nil, Int.reduceToNat, Int.reduceAdd, Int.reduceSub, Int.reduceMul, Int.reduceLT, Int.reduceLE, Int.reduceEq, Int.reduceBEq, Int.reduceNeg, decide_true, decide_false, Nat.le_max_left, Nat.le_max_right, ne_eq, not_true_eq_false, not_false_eq_true, Int.natCast_zero, gt_iff_lt, ge_iff_le, Int.reduceGT, Int.reduceGE, Bool.false_and, Bool.and_false, Bool.true_and, Bool.and_true, ])).frz (by decide) (closed_eI _) 4
    have K6 : ∀ x, frzD (hs H 2 x) 5 ov = some (.sl (os.map eI)) := fun x => (hos.keep (by simp -implicitDefEqProofs only [go_sem, ↓reduceIte, Nat.reduceEqDiff, Nat.reduceAdd, Nat.reduceSub, Nat.reduceMul, Nat.reduceLeDiff, Nat.reduceLT, Nat.reduceBEq, Nat.reduceBNe, reduceCtorEq, beq_self_eq_true, Int.toNat_natCast, List.length_map, List.length_nil, Int.reduceToNat, Int.reduceAdd, Int.reduceSub, Int.reduceMul, Int.reduceLT, Int.reduceLE, Int.reduceEq, Int.reduceBEq, Int.reduceNeg, decide_true, decide_false, Nat.le_max_left, Nat.le_max_right, ne_eq, not_true_eq_false, not_false_eq_true, Int.natCast_zero, gt_iff_lt, ge_iff_le, Int.reduceGT, Int.reduceGE, Bool.false_and, Bool.and_false, Bool.true_and, Bool.and_true, ])).frz (by decide) (closed_eI _) 4
    simp -implicitDefEqProofs only [go_sem, ↓reduceIte, Nat.reduceEqDiff, Nat.reduceAdd, Nat.reduceSub, Nat.reduceMul, Nat.reduceLeDiff, Nat.reduceLT, Nat.reduceBEq, Nat.reduceBNe, reduceCtorEq, beq_self_eq_true, Int.toNat_natCast, List.length_map, List.length_nil, Int.reduceToNat, Int.reduceAdd, Int.reduceSub, Int.reduceMul, Int.reduceLT, Int.reduceLE, Int.reduceEq, Int.reduceBEq, Int.reduceNeg, decide_true, decide_false, Nat.le_max_left, Nat.le_max_right, ne_eq, not_true_eq_false, not_false_eq_true, Int.natCast_zero, gt_iff_lt, ge_iff_le, Int.reduceGT, Int.reduceGE, Bool.false_and, Bool.and_false, Bool.true_and, Bool.and_true, K1, K2, K3, K4, K5, K6]
/-- Element i of a set. -/
def bit (s i : Int) : Bool := decide ((s / 2 ^ i.toNat) % 2 = 1)
theorem shr_div (s i : Int) (h0 : 0 ≤ i) (h1 : i ≤ 64) : s.fdiv (2 ^ (min i.toNat 64)) = s / 2 ^ i.toNat := by
  rw [show min i.toNat 64 = i.toNat by omega]
  rw [Int.fdiv_eq_ediv_of_nonneg _ (by exact Int.pow_nonneg (by decide))]
/-- Lists are not too long for the machine. -/
structure Lens (k : Conf) : Prop where
  z : k.zones.length ≤ 1000
  c : k.cells.length ≤ 1000
  t : k.tens.length ≤ 1000
  v : k.vers.length ≤ 1000
  p : k.reps.length ≤ 1000
  o : k.obs.length ≤ 1000
theorem getD_at {α : Type} {l : List α} {i : Nat} {d : α} (h : i < l.length) : l[i]? = some (l.getD i d) := by
  rw [List.getElem?_eq_getElem h, List.getD_eq_getElem?_getD, List.getElem?_eq_getElem h]; rfl

theorem ConfOk.lens {c : Conf} (h : ConfOk c) : Lens c := by
  have h1 := h.z1
  have h2 := h.c1
  have h3 := h.t1
  have h4 := h.v1
  have h5 := h.ps
  have h6 := h.o1
  constructor <;> omega
/-- Whether a set has an element. -/
def has (s i : Int) : Bool := decide (0 ≤ i) && decide (i < 62) && bit s i
theorem tmod2 (a : Int) : (a.tmod 2 != 0) = decide (a % 2 = 1) := by
  rw [Bool.eq_iff_iff]
  simp only [bne_iff_ne, ne_eq, decide_eq_true_eq]
  rw [Int.tmod_eq_emod]
  split
  · omega
  · rename_i h
    have : (2 : Int).natAbs = 2 := rfl
    rw [this]
    omega
theorem wu64 {n : Int} (h1 : 0 ≤ n) (h2 : n ≤ 9223372036854775807) : IntKind.wrap .u64 n = n := by
  simp [IntKind.wrap, IntKind.min, IntKind.max, IntKind.signed, IntKind.bits]; omega
theorem FV_Has (s i : Int) : FV PP shF 56 [dI s, dI i] = some (dB (has s i)) := by
  refine FV_B (H := []) ?_
  rw [F_fun PP56 rfl ⟨by simp [ir56], by simp⟩]
  by_cases h : 0 ≤ i
  · by_cases h4 : i < 62
    · have h5 : ¬ i < 0 := by omega
      have h6 := shr_div s i h (by omega)
      simp -implicitDefEqProofs only [go_sem, ↓reduceIte, Nat.reduceEqDiff, Nat.reduceAdd, Nat.reduceSub, Nat.reduceMul, Nat.reduceLeDiff, Nat.reduceLT, Nat.reduceBEq, Nat.reduceBNe, reduceCtorEq, beq_self_eq_true, Int.toNat_natCast, List.length_map, List.length_nil, Int.reduceToNat, Int.reduceAdd, Int.reduceSub, Int.reduceMul, Int.reduceLT, Int.reduceLE, Int.reduceEq, Int.reduceBEq, Int.reduceNeg, decide_true, decide_false, Nat.le_max_left, Nat.le_max_right, ne_eq, not_true_eq_false, not_false_eq_true, Int.natCast_zero, gt_iff_lt, ge_iff_le, Int.reduceGT, Int.reduceGE, Bool.false_and, Bool.and_false, Bool.true_and, Bool.and_true, ir56, h, h4, h5, h6, wu64 h (by omega), tmod2, has, bit]
    · simp -implicitDefEqProofs only [go_sem, ↓reduceIte, Nat.reduceEqDiff, Nat.reduceAdd, Nat.reduceSub, Nat.reduceMul, Nat.reduceLeDiff, Nat.reduceLT, Nat.reduceBEq, Nat.reduceBNe, reduceCtorEq, beq_self_eq_true, Int.toNat_natCast, List.length_map, List.length_nil, Int.reduceToNat, Int.reduceAdd, Int.reduceSub, Int.reduceMul, Int.reduceLT, Int.reduceLE, Int.reduceEq, Int.reduceBEq, Int.reduceNeg, decide_true, decide_false, Nat.le_max_left, Nat.le_max_right, ne_eq, not_true_eq_false, not_false_eq_true, Int.natCast_zero, gt_iff_lt, ge_iff_le, Int.reduceGT, Int.reduceGE, Bool.false_and, Bool.and_false, Bool.true_and, Bool.and_true, ir56, h, h4, has]
  · simp -implicitDefEqProofs only [go_sem, ↓reduceIte, Nat.reduceEqDiff, Nat.reduceAdd, Nat.reduceSub, Nat.reduceMul, Nat.reduceLeDiff, Nat.reduceLT, Nat.reduceBEq, Nat.reduceBNe, reduceCtorEq, beq_self_eq_true, Int.toNat_natCast, List.length_map, List.length_nil, Int.reduceToNat, Int.reduceAdd, Int.reduceSub, Int.reduceMul, Int.reduceLT, Int.reduceLE, Int.reduceEq, Int.reduceBEq, Int.reduceNeg, decide_true, decide_false, Nat.le_max_left, Nat.le_max_right, ne_eq, not_true_eq_false, not_false_eq_true, Int.natCast_zero, gt_iff_lt, ge_iff_le, Int.reduceGT, Int.reduceGE, Bool.false_and, Bool.and_false, Bool.true_and, Bool.and_true, ir56, h, has]
def ten (c : Conf) (t : Int) : Ten := c.tens.getD t.toNat ⟨0, 0, 0, 0, 0, 0, false⟩
theorem FV_isNaN (n : Int) : FV PP shF 155 [dI n] = some (dB false) := by
  refine FV_ok (F_ok PP155 rfl ⟨by simp [ir155], by simp⟩ ?_)
  have n1 : (n != n) = false := by simp
  simp -implicitDefEqProofs only [go_sem, ↓reduceIte, Nat.reduceEqDiff, Nat.reduceAdd, Nat.reduceSub, Nat.reduceMul, Nat.reduceLeDiff, Nat.reduceLT, Nat.reduceBEq, Nat.reduceBNe, reduceCtorEq, beq_self_eq_true, Int.toNat_natCast, List.length_map, List.length_nil, Int.reduceToNat, Int.reduceAdd, Int.reduceSub, Int.reduceMul, Int.reduceLT, Int.reduceLE, Int.reduceEq, Int.reduceBEq, Int.reduceNeg, decide_true, decide_false, Nat.le_max_left, Nat.le_max_right, ne_eq, not_true_eq_false, not_false_eq_true, Int.natCast_zero, gt_iff_lt, ge_iff_le, Int.reduceGT, Int.reduceGE, Bool.false_and, Bool.and_false, Bool.true_and, Bool.and_true, ir155, n1]
def cmpI (a b : Int) : Int := if a < b then -1 else if b < a then 1 else 0
theorem FV_Compare (a b : Int) : FV PP shF 149 [dI a, dI b] = some (dI (cmpI a b)) := by
  refine FV_ok (F_ok PP149 rfl ⟨by simp [ir149], by simp⟩ ?_)
  have N1 := FV_isNaN a
  have N2 := FV_isNaN b
  unfold cmpI
  by_cases h : a < b
  · simp -implicitDefEqProofs only [go_sem, ↓reduceIte, Nat.reduceEqDiff, Nat.reduceAdd, Nat.reduceSub, Nat.reduceMul, Nat.reduceLeDiff, Nat.reduceLT, Nat.reduceBEq, Nat.reduceBNe, reduceCtorEq, beq_self_eq_true, Int.toNat_natCast, List.length_map, List.length_nil, Int.reduceToNat, Int.reduceAdd, Int.reduceSub, Int.reduceMul, Int.reduceLT, Int.reduceLE, Int.reduceEq, Int.reduceBEq, Int.reduceNeg, decide_true, decide_false, Nat.le_max_left, Nat.le_max_right, ne_eq, not_true_eq_false, not_false_eq_true, Int.natCast_zero, gt_iff_lt, ge_iff_le, Int.reduceGT, Int.reduceGE, Bool.false_and, Bool.and_false, Bool.true_and, Bool.and_true, ir149, vpS N1 rfl, vpS N2 rfl, h]
  · by_cases h2 : b < a
    · simp -implicitDefEqProofs only [go_sem, ↓reduceIte, Nat.reduceEqDiff, Nat.reduceAdd, Nat.reduceSub, Nat.reduceMul, Nat.reduceLeDiff, Nat.reduceLT, Nat.reduceBEq, Nat.reduceBNe, reduceCtorEq, beq_self_eq_true, Int.toNat_natCast, List.length_map, List.length_nil, Int.reduceToNat, Int.reduceAdd, Int.reduceSub, Int.reduceMul, Int.reduceLT, Int.reduceLE, Int.reduceEq, Int.reduceBEq, Int.reduceNeg, decide_true, decide_false, Nat.le_max_left, Nat.le_max_right, ne_eq, not_true_eq_false, not_false_eq_true, Int.natCast_zero, gt_iff_lt, ge_iff_le, Int.reduceGT, Int.reduceGE, Bool.false_and, Bool.and_false, Bool.true_and, Bool.and_true, ir149, vpS N1 rfl, vpS N2 rfl, h, h2]
    · simp -implicitDefEqProofs only [go_sem, ↓reduceIte, Nat.reduceEqDiff, Nat.reduceAdd, Nat.reduceSub, Nat.reduceMul, Nat.reduceLeDiff, Nat.reduceLT, Nat.reduceBEq, Nat.reduceBNe, reduceCtorEq, beq_self_eq_true, Int.toNat_natCast, List.length_map, List.length_nil, Int.reduceToNat, Int.reduceAdd, Int.reduceSub, Int.reduceMul, Int.reduceLT, Int.reduceLE, Int.reduceEq, Int.reduceBEq, Int.reduceNeg, decide_true, decide_false, Nat.le_max_left, Nat.le_max_right, ne_eq, not_true_eq_false, not_false_eq_true, Int.natCast_zero, gt_iff_lt, ge_iff_le, Int.reduceGT, Int.reduceGE, Bool.false_and, Bool.and_false, Bool.true_and, Bool.and_true, ir149, vpS N1 rfl, vpS N2 rfl, h, h2]
def or3 (x y z : Int) : Int := if x ≠ 0 then x else if y ≠ 0 then y else z
def L148 (l : List Int) (k : Nat) (w : VSt) : Prop := gt .bad w.E 6 = dL l ∧ gt .bad w.E 7 = dI (l.length : Nat) ∧ gt .bad w.E 8 = dI (k : Nat) ∧ gt .bad w.E 3 = dI 0 ∧ k ≤ l.length ∧ ∀ j : Nat, j < k → l.getD j 0 = 0
theorem or_l0 (l : List Int) (hl : l.length ≤ 1000) : ∀ k w, L148 l k w → Ok (R PP shF 0 18 (.loop ir148_l0) w) (fun e w => (e = .exit 0 ∧ gt .bad w.E 3 = dI 0 ∧ ∀ j : Nat, j < l.length → l.getD j 0 = 0) ∨ (e = .ret ∧ ∃ i : Nat, i < l.length ∧ (∀ j : Nat, j < i → l.getD j 0 = 0) ∧ l.getD i 0 ≠ 0 ∧ gt .bad w.E 2 = dI (l.getD i 0))) := by
  refine Ok_up l.length (L148 l) fun k w hI => ?_
  obtain ⟨E, H⟩ := w
  obtain ⟨e6, e7, e8, e3, hk, ha⟩ := hI
  simp only at e6 e7 e8 e3
  have w1 : IntKind.wrap .i64 ((k : Int) + 1) = ((k + 1 : Nat) : Int) := by rw [w64 (by omega) (by omega)]; rfl
  by_cases hlt : k < l.length
  · have d1 : decide ((k : Int) < (l.length : Int)) = true := by simp; omega
    have q1 : (k : Int) < (l.length : Int) := by omega
    have q0 : (0 : Int) ≤ (k : Int) := by omega
    have g1 := getD_at (l := l) (i := k) (d := 0) hlt
    by_cases hx : l.getD k 0 = 0
    · have d2 : (l.getD k 0 != 0) = false := by rw [hx]; rfl
      simp -implicitDefEqProofs only [go_sem, ↓reduceIte, Nat.reduceEqDiff, Nat.reduceAdd, Nat.reduceSub, Nat.reduceMul, Nat.reduceLeDiff, Nat.reduceLT, Nat.reduceBEq, Nat.reduceBNe, reduceCtorEq, beq_self_eq_true, Int.toNat_natCast, List.length_map, List.length_nil, Int.reduceToNat, Int.reduceAdd, Int.reduceSub, Int.reduceMul, Int.reduceLT, Int.reduceLE, Int.reduceEq, Int.reduceBEq, Int.reduceNeg, decide_true, decide_false, Nat.le_max_left, Nat.le_max_right, ne_eq, not_true_eq_false, not_false_eq_true, Int.natCast_zero, gt_iff_lt, ge_iff_le, Int.reduceGT, Int.reduceGE, Bool.false_and, Bool.and_false, Bool.true_and, Bool.and_true, ir148_l0, e6, e7, e8, e3, d1, q0, q1, g1, w1, d2]
      refine .next hlt ⟨?_, ?_, ?_, ?_, by omega, fun j hj => ?_⟩ <;> (try simp -implicitDefEqProofs only [go_sem, ↓reduceIte, Nat.reduceEqDiff, Nat.reduceAdd, Nat.reduceSub, Nat.reduceMul, Nat.reduceLeDiff, Nat.reduceLT, Nat.reduceBEq, Nat.reduceBNe, reduceCtorEq, beq_self_eq_true, Int.toNat_natCast, List.length_map, List.length_nil, Int.reduceToNat, Int.reduceAdd, Int.reduceSub, Int.reduceMul, Int.reduceLT, Int.reduceLE, Int.reduceEq, Int.reduceBEq, Int.reduceNeg, decide_true, decide_false, Nat.le_max_left, Nat.le_max_right, ne_eq, not_true_eq_false, not_false_eq_true, Int.natCast_zero, gt_iff_lt, ge_iff_le, Int.reduceGT, Int.reduceGE, Bool.false_and, Bool.and_false, Bool.true_and, Bool.and_true, e6, e7, e3, w1])
      by_cases hjk : j = k
      · rw [hjk]; exact hx
      · exact ha j (by omega)
    · have d2 : (l.getD k 0 != 0) = true := by rw [bne_iff_ne]; exact hx
      simp -implicitDefEqProofs only [go_sem, ↓reduceIte, Nat.reduceEqDiff, Nat.reduceAdd, Nat.reduceSub, Nat.reduceMul, Nat.reduceLeDiff, Nat.reduceLT, Nat.reduceBEq, Nat.reduceBNe, reduceCtorEq, beq_self_eq_true, Int.toNat_natCast, List.length_map, List.length_nil, Int.reduceToNat, Int.reduceAdd, Int.reduceSub, Int.reduceMul, Int.reduceLT, Int.reduceLE, Int.reduceEq, Int.reduceBEq, Int.reduceNeg, decide_true, decide_false, Nat.le_max_left, Nat.le_max_right, ne_eq, not_true_eq_false, not_false_eq_true, Int.natCast_zero, gt_iff_lt, ge_iff_le, Int.reduceGT, Int.reduceGE, Bool.false_and, Bool.and_false, Bool.true_and, Bool.and_true, ir148_l0, e6, e7, e8, e3, d1, q0, q1, g1, w1, d2]
      refine .ret (.inr ⟨rfl, k, hlt, ha, hx, ?_⟩)
      simp -implicitDefEqProofs only [go_sem, ↓reduceIte, Nat.reduceEqDiff, Nat.reduceAdd, Nat.reduceSub, Nat.reduceMul, Nat.reduceLeDiff, Nat.reduceLT, Nat.reduceBEq, Nat.reduceBNe, reduceCtorEq, beq_self_eq_true, Int.toNat_natCast, List.length_map, List.length_nil, Int.reduceToNat, Int.reduceAdd, Int.reduceSub, Int.reduceMul, Int.reduceLT, Int.reduceLE, Int.reduceEq, Int.reduceBEq, Int.reduceNeg, decide_true, decide_false, Nat.le_max_left, Nat.le_max_right, ne_eq, not_true_eq_false, not_false_eq_true, Int.natCast_zero, gt_iff_lt, ge_iff_le, Int.reduceGT, Int.reduceGE, Bool.false_and, Bool.and_false, Bool.true_and, Bool.and_true, ]
  · have : k = l.length := by omega
    subst this
    have d1 : decide ((l.length : Int) < (l.length : Int)) = false := by simp
    simp -implicitDefEqProofs only [go_sem, ↓reduceIte, Nat.reduceEqDiff, Nat.reduceAdd, Nat.reduceSub, Nat.reduceMul, Nat.reduceLeDiff, Nat.reduceLT, Nat.reduceBEq, Nat.reduceBNe, reduceCtorEq, beq_self_eq_true, Int.toNat_natCast, List.length_map, List.length_nil, Int.reduceToNat, Int.reduceAdd, Int.reduceSub, Int.reduceMul, Int.reduceLT, Int.reduceLE, Int.reduceEq, Int.reduceBEq, Int.reduceNeg, decide_true, decide_false, Nat.le_max_left, Nat.le_max_right, ne_eq, not_true_eq_false, not_false_eq_true, Int.natCast_zero, gt_iff_lt, ge_iff_le, Int.reduceGT, Int.reduceGE, Bool.false_and, Bool.and_false, Bool.true_and, Bool.and_true, ir148_l0, e7, e8, d1]
    refine .exit (.inl ⟨rfl, ?_, ha⟩)
    simp -implicitDefEqProofs only [go_sem, ↓reduceIte, Nat.reduceEqDiff, Nat.reduceAdd, Nat.reduceSub, Nat.reduceMul, Nat.reduceLeDiff, Nat.reduceLT, Nat.reduceBEq, Nat.reduceBNe, reduceCtorEq, beq_self_eq_true, Int.toNat_natCast, List.length_map, List.length_nil, Int.reduceToNat, Int.reduceAdd, Int.reduceSub, Int.reduceMul, Int.reduceLT, Int.reduceLE, Int.reduceEq, Int.reduceBEq, Int.reduceNeg, decide_true, decide_false, Nat.le_max_left, Nat.le_max_right, ne_eq, not_true_eq_false, not_false_eq_true, Int.natCast_zero, gt_iff_lt, ge_iff_le, Int.reduceGT, Int.reduceGE, Bool.false_and, Bool.and_false, Bool.true_and, Bool.and_true, e3]
theorem FV_Or3 (x y z : Int) : FV PP shF 148 [dL [x, y, z]] = some (dI (or3 x y z)) := by
  refine FV_ok (F_ok PP148 rfl ⟨by simp [ir148], by simp⟩ ?_)
  simp -implicitDefEqProofs only [go_sem, ↓reduceIte, Nat.reduceEqDiff, Nat.reduceAdd, Nat.reduceSub, Nat.reduceMul, Nat.reduceLeDiff, Nat.reduceLT, Nat.reduceBEq, Nat.reduceBNe, reduceCtorEq, beq_self_eq_true, Int.toNat_natCast, List.length_map, List.length_nil, Int.reduceToNat, Int.reduceAdd, Int.reduceSub, Int.reduceMul, Int.reduceLT, Int.reduceLE, Int.reduceEq, Int.reduceBEq, Int.reduceNeg, decide_true, decide_false, Nat.le_max_left, Nat.le_max_right, ne_eq, not_true_eq_false, not_false_eq_true, Int.natCast_zero, gt_iff_lt, ge_iff_le, Int.reduceGT, Int.reduceGE, Bool.false_and, Bool.and_false, Bool.true_and, Bool.and_true, ir148]
  refine (or_l0 [x, y, z] (by simp) 0 _ ⟨?_, ?_, ?_, ?_, by omega, fun j hj => by omega⟩).mono ?_
  · simp -implicitDefEqProofs only [go_sem, ↓reduceIte, Nat.reduceEqDiff, Nat.reduceAdd, Nat.reduceSub, Nat.reduceMul, Nat.reduceLeDiff, Nat.reduceLT, Nat.reduceBEq, Nat.reduceBNe, reduceCtorEq, beq_self_eq_true, Int.toNat_natCast, List.length_map, List.length_nil, Int.reduceToNat, Int.reduceAdd, Int.reduceSub, Int.reduceMul, Int.reduceLT, Int.reduceLE, Int.reduceEq, Int.reduceBEq, Int.reduceNeg, decide_true, decide_false, Nat.le_max_left, Nat.le_max_right, ne_eq, not_true_eq_false, not_false_eq_true, Int.natCast_zero, gt_iff_lt, ge_iff_le, Int.reduceGT, Int.reduceGE, Bool.false_and, Bool.and_false, Bool.true_and, Bool.and_true, List.map_cons, List.map_nil]
  · simp -implicitDefEqProofs only [go_sem, ↓reduceIte, Nat.reduceEqDiff, Nat.reduceAdd, Nat.reduceSub, Nat.reduceMul, Nat.reduceLeDiff, Nat.reduceLT, Nat.reduceBEq, Nat.reduceBNe, reduceCtorEq, beq_self_eq_true, Int.toNat_natCast, List.length_map, List.length_nil, Int.reduceToNat, Int.reduceAdd, Int.reduceSub, Int.reduceMul, Int.reduceLT, Int.reduceLE, Int.reduceEq, Int.reduceBEq, Int.reduceNeg, decide_true, decide_false, Nat.le_max_left, Nat.le_max_right, ne_eq, not_true_eq_false, not_false_eq_true, Int.natCast_zero, gt_iff_lt, ge_iff_le, Int.reduceGT, Int.reduceGE, Bool.false_and, Bool.and_false, Bool.true_and, Bool.and_true, ]
  · simp -implicitDefEqProofs only [go_sem, ↓reduceIte, Nat.reduceEqDiff, Nat.reduceAdd, Nat.reduceSub, Nat.reduceMul, Nat.reduceLeDiff, Nat.reduceLT, Nat.reduceBEq, Nat.reduceBNe, reduceCtorEq, beq_self_eq_true, Int.toNat_natCast, List.length_map, List.length_nil, Int.reduceToNat, Int.reduceAdd, Int.reduceSub, Int.reduceMul, Int.reduceLT, Int.reduceLE, Int.reduceEq, Int.reduceBEq, Int.reduceNeg, decide_true, decide_false, Nat.le_max_left, Nat.le_max_right, ne_eq, not_true_eq_false, not_false_eq_true, Int.natCast_zero, gt_iff_lt, ge_iff_le, Int.reduceGT, Int.reduceGE, Bool.false_and, Bool.and_false, Bool.true_and, Bool.and_true, ]
  · simp -implicitDefEqProofs only [go_sem, ↓reduceIte, Nat.reduceEqDiff, Nat.reduceAdd, Nat.reduceSub, Nat.reduceMul, Nat.reduceLeDiff, Nat.reduceLT, Nat.reduceBEq, Nat.reduceBNe, reduceCtorEq, beq_self_eq_true, Int.toNat_natCast, List.length_map, List.length_nil, Int.reduceToNat, Int.reduceAdd, Int.reduceSub, Int.reduceMul, Int.reduceLT, Int.reduceLE, Int.reduceEq, Int.reduceBEq, Int.reduceNeg, decide_true, decide_false, Nat.le_max_left, Nat.le_max_right, ne_eq, not_true_eq_false, not_false_eq_true, Int.natCast_zero, gt_iff_lt, ge_iff_le, Int.reduceGT, Int.reduceGE, Bool.false_and, Bool.and_false, Bool.true_and, Bool.and_true, ]
  rintro e ⟨E, H⟩ (⟨rfl, e3, ha⟩ | ⟨rfl, i, hi, ha, hn, e2⟩)
  · have h0 := ha 0 (by simp)
    have h1 := ha 1 (by simp)
    have h2 := ha 2 (by simp)
    simp only at e3
    have hx : or3 x y z = 0 := by
      unfold or3
      simp at h0 h1 h2
      rw [h0, h1, h2]; simp
    simp -implicitDefEqProofs only [go_sem, ↓reduceIte, Nat.reduceEqDiff, Nat.reduceAdd, Nat.reduceSub, Nat.reduceMul, Nat.reduceLeDiff, Nat.reduceLT, Nat.reduceBEq, Nat.reduceBNe, reduceCtorEq, beq_self_eq_true, Int.toNat_natCast, List.length_map, List.length_nil, Int.reduceToNat, Int.reduceAdd, Int.reduceSub, Int.reduceMul, Int.reduceLT, Int.reduceLE, Int.reduceEq, Int.reduceBEq, Int.reduceNeg, decide_true, decide_false, Nat.le_max_left, Nat.le_max_right, ne_eq, not_true_eq_false, not_false_eq_true, Int.natCast_zero, gt_iff_lt, ge_iff_le, Int.reduceGT, Int.reduceGE, Bool.false_and, Bool.and_false, Bool.true_and, Bool.and_true, e3, hx]
  · simp only at e2
    have hx : or3 x y z = [x, y, z].getD i 0 := by
      unfold or3
      obtain rfl | rfl | rfl : i = 0 ∨ i = 1 ∨ i = 2 := by simp at hi; omega
      · simp at hn ⊢; simp [hn]
      · have h0 := ha 0 (by omega)
        simp at hn h0 ⊢; simp [hn, h0]
      · have h0 := ha 0 (by omega)
        have h1 := ha 1 (by omega)
        simp at hn h0 h1 ⊢; simp [hn, h0, h1]
    simp -implicitDefEqProofs only [go_sem, ↓reduceIte, Nat.reduceEqDiff, Nat.reduceAdd, Nat.reduceSub, Nat.reduceMul, Nat.reduceLeDiff, Nat.reduceLT, Nat.reduceBEq, Nat.reduceBNe, reduceCtorEq, beq_self_eq_true, Int.toNat_natCast, List.length_map, List.length_nil, Int.reduceToNat, Int.reduceAdd, Int.reduceSub, Int.reduceMul, Int.reduceLT, Int.reduceLE, Int.reduceEq, Int.reduceBEq, Int.reduceNeg, decide_true, decide_false, Nat.le_max_left, Nat.le_max_right, ne_eq, not_true_eq_false, not_false_eq_true, Int.natCast_zero, gt_iff_lt, ge_iff_le, Int.reduceGT, Int.reduceGE, Bool.false_and, Bool.and_false, Bool.true_and, Bool.and_true, e2, hx]
theorem FV_Or3' (x y z : Int) : FV PP shF 148 [.sl [[dI x], [dI y], [dI z]]] = some (dI (or3 x y z)) := FV_Or3 x y z
/-- How two tenants stand to each other. -/
def ordC (c : Conf) (a b : Int) : Int := or3 (cmpI (ten c b).prio (ten c a).prio) (cmpI (ten c b).load (ten c a).load) (cmpI a b)
theorem FV_Order1 (c : Conf) (a b : Int) (ha : 0 ≤ a ∧ a < c.tens.length) (hb : 0 ≤ b ∧ b < c.tens.length) : FV PP shF 147 [dI a, dI b, .rp (eK c)] = some (dI (ordC c a b)) := by
  have ga : c.tens[a.toNat]? = some (ten c a) := getD_at (l := c.tens) (i := a.toNat) (d := ⟨0, 0, 0, 0, 0, 0, false⟩) (by omega)
  have gb : c.tens[b.toNat]? = some (ten c b) := getD_at (l := c.tens) (i := b.toNat) (d := ⟨0, 0, 0, 0, 0, 0, false⟩) (by omega)
  have C1 := FV_Compare (ten c b).prio (ten c a).prio
  have C2 := FV_Compare (ten c b).load (ten c a).load
  have C3 := FV_Compare a b
  have O := FV_Or3' (cmpI (ten c b).prio (ten c a).prio) (cmpI (ten c b).load (ten c a).load) (cmpI a b)
  rw [show or3 (cmpI (ten c b).prio (ten c a).prio) (cmpI (ten c b).load (ten c a).load) (cmpI a b) = ordC c a b from rfl] at O
  refine FV_ok (F_ok PP147 rfl ⟨by simp [ir147], by simp⟩ ?_)
  generalize ordC c a b = oo at *
  generalize cmpI (ten c b).prio (ten c a).prio = x1 at *
  generalize cmpI (ten c b).load (ten c a).load = x2 at *
  generalize cmpI a b = x3 at *
  simp -implicitDefEqProofs only [go_sem, ↓reduceIte, Nat.reduceEqDiff, Nat.reduceAdd, Nat.reduceSub, Nat.reduceMul, Nat.reduceLeDiff, Nat.reduceLT, Nat.reduceBEq, Nat.reduceBNe, reduceCtorEq, beq_self_eq_true, Int.toNat_natCast, List.length_map, List.length_nil, Int.reduceToNat, Int.reduceAdd, Int.reduceSub, Int.reduceMul, Int.reduceLT, Int.reduceLE, Int.reduceEq, Int.reduceBEq, Int.reduceNeg, decide_true, decide_false, Nat.le_max_left, Nat.le_max_right, ne_eq, not_true_eq_false, not_false_eq_true, Int.natCast_zero, gt_iff_lt, ge_iff_le, Int.reduceGT, Int.reduceGE, Bool.false_and, Bool.and_false, Bool.true_and, Bool.and_true, ir147, eK, ha, hb, ga, gb, vpS C1 rfl, vpS C2 rfl, vpS C3 rfl, vpS O rfl]
def swapAt (l : List Int) (j : Nat) : List Int := (l.set (j + 1) (l.getD j 0)).set j (l.getD (j + 1) 0)
def insOne (p : Int → Int → Bool) : List Int → Nat → List Int
  | l, 0 => l
  | l, j + 1 => if p (l.getD (j + 1) 0) (l.getD j 0) = true then insOne p (swapAt l j) j else l
def insAll (p : Int → Int → Bool) (l : List Int) : Nat → List Int
  | 0 => l
  | i + 1 => insOne p (insAll p l i) i
theorem swapAt_len (l : List Int) (j : Nat) : (swapAt l j).length = l.length := by simp [swapAt]
theorem swapAt_mem {l : List Int} {j : Nat} (hj : j + 1 < l.length) {P : Int → Prop} (h : ∀ x, x ∈ l → P x) : ∀ x, x ∈ swapAt l j → P x := by
  intro x hx
  have a1 := List.mem_of_getElem? (getD_at (l := l) (i := j) (d := 0) (by omega))
  have a2 := List.mem_of_getElem? (getD_at (l := l) (i := j + 1) (d := 0) hj)
  unfold swapAt at hx
  rcases List.mem_or_eq_of_mem_set hx with hx | rfl
  · rcases List.mem_or_eq_of_mem_set hx with hx | rfl
    · exact h x hx
    · exact h _ a1
  · exact h _ a2
def pC (c : Conf) (a b : Int) : Bool := decide (ordC c a b < 0)
/-- The heap of the caller, with the list as it is now. -/
def HS (H : VHeap) (b ver : Nat) (l : List Int) : VHeap := hs H b ⟨ver, 1, true, l.map eI⟩
structure SortIn (H : VHeap) (b ver b2 v2 : Nat) (c : Conf) (l : List Int) : Prop where
  ne : b ≠ b2
  h2 : hg H b2 = ⟨v2, 0, true, [eK c]⟩
  lt : b < H.length
  len : l.length ≤ 1000
  mem : ∀ x, x ∈ l → 0 ≤ x ∧ x < c.tens.length
def L157i (H : VHeap) (b ver b2 v2 n i : Nat) (l : List Int) (j : Nat) (w : VSt) : Prop := gt .bad w.E 0 = .ms b ver 0 n n ∧ gt .bad w.E 1 = dI 0 ∧ gt .bad w.E 2 = dI (n : Nat) ∧ gt .bad w.E 3 = .fn 147 [.mp b2 v2 0 0] ∧ gt .bad w.E 8 = dI (i : Nat) ∧ gt .bad w.E 9 = dI (j : Nat) ∧ w.H = HS H b ver l
theorem ins_l0 (H : VHeap) (b ver b2 v2 n : Nat) (c : Conf) (i : Nat) (base : Nat) (fin : List Int) : ∀ (j : Nat) (w : VSt), (∃ l : List Int, l.length = n ∧ SortIn H b ver b2 v2 c l ∧ j < n ∧ insOne (pC c) l j = fin ∧ L157i H b ver b2 v2 n i l j w) → Ok (R PP shF base 53 (.loop ir157_l0) w) (fun e w => e = .exit 2 ∧ SortIn H b ver b2 v2 c fin ∧ fin.length = n ∧ ∃ j : Nat, L157i H b ver b2 v2 n i fin j w) := by
  refine Ok_dn _ fun j w hI => ?_
  obtain ⟨E, H'⟩ := w
  obtain ⟨l, hln, hS, hj, hfin, e0, e1, e2, e3, e8, e9, rfl⟩ := hI
  simp only at e0 e1 e2 e3 e8 e9
  have hl := hS.len
  have hb : hg (HS H b ver l) b = ⟨ver, 1, true, l.map eI⟩ := by unfold HS; simp -implicitDefEqProofs only [go_sem, ↓reduceIte, Nat.reduceEqDiff, Nat.reduceAdd, Nat.reduceSub, Nat.reduceMul, Nat.reduceLeDiff, Nat.reduceLT, Nat.reduceBEq, Nat.reduceBNe, reduceCtorEq, beq_self_eq_true, Int.toNat_natCast, List.length_map, List.length_nil, Int.reduceToNat, Int.reduceAdd, Int.reduceSub, Int.reduceMul, Int.reduceLT, Int.reduceLE, Int.reduceEq, Int.reduceBEq, Int.reduceNeg, decide_true, decide_false, Nat.le_max_left, Nat.le_max_right, ne_eq, not_true_eq_false, not_false_eq_true, Int.natCast_zero, gt_iff_lt, ge_iff_le, Int.reduceGT, Int.reduceGE, Bool.false_and, Bool.and_false, Bool.true_and, Bool.and_true, ]
  have hb2 : hg (HS H b ver l) b2 = ⟨v2, 0, true, [eK c]⟩ := by unfold HS; have := hS.ne; simp -implicitDefEqProofs only [go_sem, ↓reduceIte, Nat.reduceEqDiff, Nat.reduceAdd, Nat.reduceSub, Nat.reduceMul, Nat.reduceLeDiff, Nat.reduceLT, Nat.reduceBEq, Nat.reduceBNe, reduceCtorEq, beq_self_eq_true, Int.toNat_natCast, List.length_map, List.length_nil, Int.reduceToNat, Int.reduceAdd, Int.reduceSub, Int.reduceMul, Int.reduceLT, Int.reduceLE, Int.reduceEq, Int.reduceBEq, Int.reduceNeg, decide_true, decide_false, Nat.le_max_left, Nat.le_max_right, ne_eq, not_true_eq_false, not_false_eq_true, Int.natCast_zero, gt_iff_lt, ge_iff_le, Int.reduceGT, Int.reduceGE, Bool.false_and, Bool.and_false, Bool.true_and, Bool.and_true, this, hS.h2]
  cases j with
  | zero =>
    have d1 : decide ((0 : Int) < ((0 : Nat) : Int)) = false := rfl
    simp -implicitDefEqProofs only [go_sem, ↓reduceIte, Nat.reduceEqDiff, Nat.reduceAdd, Nat.reduceSub, Nat.reduceMul, Nat.reduceLeDiff, Nat.reduceLT, Nat.reduceBEq, Nat.reduceBNe, reduceCtorEq, beq_self_eq_true, Int.toNat_natCast, List.length_map, List.length_nil, Int.reduceToNat, Int.reduceAdd, Int.reduceSub, Int.reduceMul, Int.reduceLT, Int.reduceLE, Int.reduceEq, Int.reduceBEq, Int.reduceNeg, decide_true, decide_false, Nat.le_max_left, Nat.le_max_right, ne_eq, not_true_eq_false, not_false_eq_true, Int.natCast_zero, gt_iff_lt, ge_iff_le, Int.reduceGT, Int.reduceGE, Bool.false_and, Bool.and_false, Bool.true_and, Bool.and_true, ir157_l0, e0, e1, e2, e3, e9, d1]
    refine .exit ⟨rfl, ?_, ?_, 0, ?_, ?_, ?_, ?_, ?_, ?_, ?_⟩
    · rw [← hfin]; exact hS
    · rw [← hfin]; exact hln
    · simp -implicitDefEqProofs only [go_sem, ↓reduceIte, Nat.reduceEqDiff, Nat.reduceAdd, Nat.reduceSub, Nat.reduceMul, Nat.reduceLeDiff, Nat.reduceLT, Nat.reduceBEq, Nat.reduceBNe, reduceCtorEq, beq_self_eq_true, Int.toNat_natCast, List.length_map, List.length_nil, Int.reduceToNat, Int.reduceAdd, Int.reduceSub, Int.reduceMul, Int.reduceLT, Int.reduceLE, Int.reduceEq, Int.reduceBEq, Int.reduceNeg, decide_true, decide_false, Nat.le_max_left, Nat.le_max_right, ne_eq, not_true_eq_false, not_false_eq_true, Int.natCast_zero, gt_iff_lt, ge_iff_le, Int.reduceGT, Int.reduceGE, Bool.false_and, Bool.and_false, Bool.true_and, Bool.and_true, e0]
    · simp -implicitDefEqProofs only [go_sem, ↓reduceIte, Nat.reduceEqDiff, Nat.reduceAdd, Nat.reduceSub, Nat.reduceMul, Nat.reduceLeDiff, Nat.reduceLT, Nat.reduceBEq, Nat.reduceBNe, reduceCtorEq, beq_self_eq_true, Int.toNat_natCast, List.length_map, List.length_nil, Int.reduceToNat, Int.reduceAdd, Int.reduceSub, Int.reduceMul, Int.reduceLT, Int.reduceLE, Int.reduceEq, Int.reduceBEq, Int.reduceNeg, decide_true, decide_false, Nat.le_max_left, Nat.le_max_right, ne_eq, not_true_eq_false, not_false_eq_true, Int.natCast_zero, gt_iff_lt, ge_iff_le, Int.reduceGT, Int.reduceGE, Bool.false_and, Bool.and_false, Bool.true_and, Bool.and_true, e1]
    · simp -implicitDefEqProofs only [go_sem, ↓reduceIte, Nat.reduceEqDiff, Nat.reduceAdd, Nat.reduceSub, Nat.reduceMul, Nat.reduceLeDiff, Nat.reduceLT, Nat.reduceBEq, Nat.reduceBNe, reduceCtorEq, beq_self_eq_true, Int.toNat_natCast, List.length_map, List.length_nil, Int.reduceToNat, Int.reduceAdd, Int.reduceSub, Int.reduceMul, Int.reduceLT, Int.reduceLE, Int.reduceEq, Int.reduceBEq, Int.reduceNeg, decide_true, decide_false, Nat.le_max_left, Nat.le_max_right, ne_eq, not_true_eq_false, not_false_eq_true, Int.natCast_zero, gt_iff_lt, ge_iff_le, Int.reduceGT, Int.reduceGE, Bool.false_and, Bool.and_false, Bool.true_and, Bool.and_true, e2]
    · simp -implicitDefEqProofs only [go_sem, ↓reduceIte, Nat.reduceEqDiff, Nat.reduceAdd, Nat.reduceSub, Nat.reduceMul, Nat.reduceLeDiff, Nat.reduceLT, Nat.reduceBEq, Nat.reduceBNe, reduceCtorEq, beq_self_eq_true, Int.toNat_natCast, List.length_map, List.length_nil, Int.reduceToNat, Int.reduceAdd, Int.reduceSub, Int.reduceMul, Int.reduceLT, Int.reduceLE, Int.reduceEq, Int.reduceBEq, Int.reduceNeg, decide_true, decide_false, Nat.le_max_left, Nat.le_max_right, ne_eq, not_true_eq_false, not_false_eq_true, Int.natCast_zero, gt_iff_lt, ge_iff_le, Int.reduceGT, Int.reduceGE, Bool.false_and, Bool.and_false, Bool.true_and, Bool.and_true, e3]
    · simp -implicitDefEqProofs only [go_sem, ↓reduceIte, Nat.reduceEqDiff, Nat.reduceAdd, Nat.reduceSub, Nat.reduceMul, Nat.reduceLeDiff, Nat.reduceLT, Nat.reduceBEq, Nat.reduceBNe, reduceCtorEq, beq_self_eq_true, Int.toNat_natCast, List.length_map, List.length_nil, Int.reduceToNat, Int.reduceAdd, Int.reduceSub, Int.reduceMul, Int.reduceLT, Int.reduceLE, Int.reduceEq, Int.reduceBEq, Int.reduceNeg, decide_true, decide_false, Nat.le_max_left, Nat.le_max_right, ne_eq, not_true_eq_false, not_false_eq_true, Int.natCast_zero, gt_iff_lt, ge_iff_le, Int.reduceGT, Int.reduceGE, Bool.false_and, Bool.and_false, Bool.true_and, Bool.and_true, e8]
    · simp -implicitDefEqProofs only [go_sem, ↓reduceIte, Nat.reduceEqDiff, Nat.reduceAdd, Nat.reduceSub, Nat.reduceMul, Nat.reduceLeDiff, Nat.reduceLT, Nat.reduceBEq, Nat.reduceBNe, reduceCtorEq, beq_self_eq_true, Int.toNat_natCast, List.length_map, List.length_nil, Int.reduceToNat, Int.reduceAdd, Int.reduceSub, Int.reduceMul, Int.reduceLT, Int.reduceLE, Int.reduceEq, Int.reduceBEq, Int.reduceNeg, decide_true, decide_false, Nat.le_max_left, Nat.le_max_right, ne_eq, not_true_eq_false, not_false_eq_true, Int.natCast_zero, gt_iff_lt, ge_iff_le, Int.reduceGT, Int.reduceGE, Bool.false_and, Bool.and_false, Bool.true_and, Bool.and_true, e9]
    · rw [← hfin]; rfl
  | succ j =>
    have d1 : decide ((0 : Int) < ((j + 1 : Nat) : Int)) = true := by simp
    have w1 : IntKind.wrap .i64 (((j + 1 : Nat) : Int) - 1) = (j : Int) := by rw [w64 (by omega) (by omega)]; omega
    have q0 : (0 : Int) ≤ ((j + 1 : Nat) : Int) := by omega
    have q1 : ((j + 1 : Nat) : Int) < (n : Int) := by omega
    have q2 : (0 : Int) ≤ (j : Int) := by omega
    have q3 : (j : Int) < (n : Int) := by omega
    have g1 := getD_at (l := l) (i := j + 1) (d := 0) (by omega)
    have g2 := getD_at (l := l) (i := j) (d := 0) (by omega)
    have m1 := hS.mem _ (List.mem_of_getElem? g1)
    have m2 := hS.mem _ (List.mem_of_getElem? g2)
    have B := FV_Order1 c (l.getD (j + 1) 0) (l.getD j 0) m1 m2
    cases hp : pC c (l.getD (j + 1) 0) (l.getD j 0) with
    | true =>
      have d2 : decide (ordC c (l.getD (j + 1) 0) (l.getD j 0) < 0) = true := hp
      have t1 : (List.map eI l).set (j + 1) [dI (l.getD j 0)] = List.map eI (l.set (j + 1) (l.getD j 0)) := by rw [List.map_set]
      have g3 : (l.set (j + 1) (l.getD j 0))[j]? = some (l.getD j 0) := by rw [List.getElem?_set_ne (by omega)]; exact g2
      have t2 : (List.map eI (l.set (j + 1) (l.getD j 0))).set j [dI (l.getD (j + 1) 0)] = List.map eI (swapAt l j) := by
        unfold swapAt
        exact (List.map_set (f := eI) (l := l.set (j + 1) (l.getD j 0)) (i := j) (a := l.getD (j + 1) 0)).symm
      have hfin' : insOne (pC c) (swapAt l j) j = fin := by rw [← hfin]; simp only [insOne, hp, ↓reduceIte]
      have hS' : SortIn H b ver b2 v2 c (swapAt l j) := ⟨hS.ne, hS.h2, hS.lt, by rw [swapAt_len]; exact hl, swapAt_mem (by omega) hS.mem⟩
      have hln' : (swapAt l j).length = n := by rw [swapAt_len]; exact hln
      simp -implicitDefEqProofs only [go_sem, ↓reduceIte, Nat.reduceEqDiff, Nat.reduceAdd, Nat.reduceSub, Nat.reduceMul, Nat.reduceLeDiff, Nat.reduceLT, Nat.reduceBEq, Nat.reduceBNe, reduceCtorEq, beq_self_eq_true, Int.toNat_natCast, List.length_map, List.length_nil, Int.reduceToNat, Int.reduceAdd, Int.reduceSub, Int.reduceMul, Int.reduceLT, Int.reduceLE, Int.reduceEq, Int.reduceBEq, Int.reduceNeg, decide_true, decide_false, Nat.le_max_left, Nat.le_max_right, ne_eq, not_true_eq_false, not_false_eq_true, Int.natCast_zero, gt_iff_lt, ge_iff_le, Int.reduceGT, Int.reduceGE, Bool.false_and, Bool.and_false, Bool.true_and, Bool.and_true, ir157_l0, e0, e1, e2, e3, e9, d1, w1, q0, q1, q2, q3, g1, g2, hb, hb2, hln, vpS B rfl, d2, t1, g3, t2]
      refine .next (Nat.lt_succ_self j) ⟨swapAt l j, hln', hS', by omega, hfin', ?_, ?_, ?_, ?_, ?_, ?_, ?_⟩
      · simp -implicitDefEqProofs only [go_sem, ↓reduceIte, Nat.reduceEqDiff, Nat.reduceAdd, Nat.reduceSub, Nat.reduceMul, Nat.reduceLeDiff, Nat.reduceLT, Nat.reduceBEq, Nat.reduceBNe, reduceCtorEq, beq_self_eq_true, Int.toNat_natCast, List.length_map, List.length_nil, Int.reduceToNat, Int.reduceAdd, Int.reduceSub, Int.reduceMul, Int.reduceLT, Int.reduceLE, Int.reduceEq, Int.reduceBEq, Int.reduceNeg, decide_true, decide_false, Nat.le_max_left, Nat.le_max_right, ne_eq, not_true_eq_false, not_false_eq_true, Int.natCast_zero, gt_iff_lt, ge_iff_le, Int.reduceGT, Int.reduceGE, Bool.false_and, Bool.and_false, Bool.true_and, Bool.and_true, e0]
      · simp -implicitDefEqProofs only [go_sem, ↓reduceIte, Nat.reduceEqDiff, Nat.reduceAdd, Nat.reduceSub, Nat.reduceMul, Nat.reduceLeDiff, Nat.reduceLT, Nat.reduceBEq, Nat.reduceBNe, reduceCtorEq, beq_self_eq_true, Int.toNat_natCast, List.length_map, List.length_nil, Int.reduceToNat, Int.reduceAdd, Int.reduceSub, Int.reduceMul, Int.reduceLT, Int.reduceLE, Int.reduceEq, Int.reduceBEq, Int.reduceNeg, decide_true, decide_false, Nat.le_max_left, Nat.le_max_right, ne_eq, not_true_eq_false, not_false_eq_true, Int.natCast_zero, gt_iff_lt, ge_iff_le, Int.reduceGT, Int.reduceGE, Bool.false_and, Bool.and_false, Bool.true_and, Bool.and_true, e1]
      · simp -implicitDefEqProofs only [go_sem, ↓reduceIte, Nat.reduceEqDiff, Nat.reduceAdd, Nat.reduceSub, Nat.reduceMul, Nat.reduceLeDiff, Nat.reduceLT, Nat.reduceBEq, Nat.reduceBNe, reduceCtorEq, beq_self_eq_true, Int.toNat_natCast, List.length_map, List.length_nil, Int.reduceToNat, Int.reduceAdd, Int.reduceSub, Int.reduceMul, Int.reduceLT, Int.reduceLE, Int.reduceEq, Int.reduceBEq, Int.reduceNeg, decide_true, decide_false, Nat.le_max_left, Nat.le_max_right, ne_eq, not_true_eq_false, not_false_eq_true, Int.natCast_zero, gt_iff_lt, ge_iff_le, Int.reduceGT, Int.reduceGE, Bool.false_and, Bool.and_false, Bool.true_and, Bool.and_true, e2]
      · simp -implicitDefEqProofs only [go_sem, ↓reduceIte, Nat.reduceEqDiff, Nat.reduceAdd, Nat.reduceSub, Nat.reduceMul, Nat.reduceLeDiff, Nat.reduceLT, Nat.reduceBEq, Nat.reduceBNe, reduceCtorEq, beq_self_eq_true, Int.toNat_natCast, List.length_map, List.length_nil, Int.reduceToNat, Int.reduceAdd, Int.reduceSub, Int.reduceMul, Int.reduceLT, Int.reduceLE, Int.reduceEq, Int.reduceBEq, Int.reduceNeg, decide_true, decide_false, Nat.le_max_left, Nat.le_max_right, ne_eq, not_true_eq_false, not_false_eq_true, Int.natCast_zero, gt_iff_lt, ge_iff_le, Int.reduceGT, Int.reduceGE, Bool.false_and, Bool.and_false, Bool.true_and, Bool.and_true, e3]
      · simp -implicitDefEqProofs only [go_sem, ↓reduceIte, Nat.reduceEqDiff, Nat.reduceAdd, Nat.reduceSub, Nat.reduceMul, Nat.reduceLeDiff, Nat.reduceLT, Nat.reduceBEq, Nat.reduceBNe, reduceCtorEq, beq_self_eq_true, Int.toNat_natCast, List.length_map, List.length_nil, Int.reduceToNat, Int.reduceAdd, Int.reduceSub, Int.reduceMul, Int.reduceLT, Int.reduceLE, Int.reduceEq, Int.reduceBEq, Int.reduceNeg, decide_true, decide_false, Nat.le_max_left, Nat.le_max_right, ne_eq, not_true_eq_false, not_false_eq_true, Int.natCast_zero, gt_iff_lt, ge_iff_le, Int.reduceGT, Int.reduceGE, Bool.false_and, Bool.and_false, Bool.true_and, Bool.and_true, e8]
      · simp -implicitDefEqProofs only [go_sem, ↓reduceIte, Nat.reduceEqDiff, Nat.reduceAdd, Nat.reduceSub, Nat.reduceMul, Nat.reduceLeDiff, Nat.reduceLT, Nat.reduceBEq, Nat.reduceBNe, reduceCtorEq, beq_self_eq_true, Int.toNat_natCast, List.length_map, List.length_nil, Int.reduceToNat, Int.reduceAdd, Int.reduceSub, Int.reduceMul, Int.reduceLT, Int.reduceLE, Int.reduceEq, Int.reduceBEq, Int.reduceNeg, decide_true, decide_false, Nat.le_max_left, Nat.le_max_right, ne_eq, not_true_eq_false, not_false_eq_true, Int.natCast_zero, gt_iff_lt, ge_iff_le, Int.reduceGT, Int.reduceGE, Bool.false_and, Bool.and_false, Bool.true_and, Bool.and_true, e9, w1]
      · simp only [HS, hs_hs]
    | false =>
      have d2 : decide (ordC c (l.getD (j + 1) 0) (l.getD j 0) < 0) = false := hp
      have hfin' : l = fin := by rw [← hfin]; simp only [insOne, hp, Bool.false_eq_true, ↓reduceIte]
      simp -implicitDefEqProofs only [go_sem, ↓reduceIte, Nat.reduceEqDiff, Nat.reduceAdd, Nat.reduceSub, Nat.reduceMul, Nat.reduceLeDiff, Nat.reduceLT, Nat.reduceBEq, Nat.reduceBNe, reduceCtorEq, beq_self_eq_true, Int.toNat_natCast, List.length_map, List.length_nil, Int.reduceToNat, Int.reduceAdd, Int.reduceSub, Int.reduceMul, Int.reduceLT, Int.reduceLE, Int.reduceEq, Int.reduceBEq, Int.reduceNeg, decide_true, decide_false, Nat.le_max_left, Nat.le_max_right, ne_eq, not_true_eq_false, not_false_eq_true, Int.natCast_zero, gt_iff_lt, ge_iff_le, Int.reduceGT, Int.reduceGE, Bool.false_and, Bool.and_false, Bool.true_and, Bool.and_true, ir157_l0, e0, e1, e2, e3, e9, d1, w1, q0, q1, q2, q3, g1, g2, hb, hb2, hln, vpS B rfl, d2]
      refine .exit ⟨rfl, ?_, ?_, j + 1, ?_, ?_, ?_, ?_, ?_, ?_, ?_⟩
      · rw [← hfin']; exact hS
      · rw [← hfin']; exact hln
      · simp -implicitDefEqProofs only [go_sem, ↓reduceIte, Nat.reduceEqDiff, Nat.reduceAdd, Nat.reduceSub, Nat.reduceMul, Nat.reduceLeDiff, Nat.reduceLT, Nat.reduceBEq, Nat.reduceBNe, reduceCtorEq, beq_self_eq_true, Int.toNat_natCast, List.length_map, List.length_nil, Int.reduceToNat, Int.reduceAdd, Int.reduceSub, Int.reduceMul, Int.reduceLT, Int.reduceLE, Int.reduceEq, Int.reduceBEq, Int.reduceNeg, decide_true, decide_false, Nat.le_max_left, Nat.le_max_right, ne_eq, not_true_eq_false, not_false_eq_true, Int.natCast_zero, gt_iff_lt, ge_iff_le, Int.reduceGT, Int.reduceGE, Bool.false_and, Bool.and_false, Bool.true_and, Bool.and_true, e0]
      · simp -implicitDefEqProofs only [go_sem, ↓reduceIte, Nat.reduceEqDiff, Nat.reduceAdd, Nat.reduceSub, Nat.reduceMul, Nat.reduceLeDiff, Nat.reduceLT, Nat.reduceBEq, Nat.reduceBNe, reduceCtorEq, beq_self_eq_true, Int.toNat_natCast, List.length_map, List.length_nil, Int.reduceToNat, Int.reduceAdd, Int.reduceSub, Int.reduceMul, Int.reduceLT, Int.reduceLE, Int.reduceEq, Int.reduceBEq, Int.reduceNeg, decide_true, decide_false, Nat.le_max_left, Nat.le_max_right, ne_eq, not_true_eq_false, not_false_eq_true, Int.natCast_zero, gt_iff_lt, ge_iff_le, Int.reduceGT, Int.reduceGE, Bool.false_and, Bool.and_false, Bool.true_and, Bool.and_true, e1]
      · simp -implicitDefEqProofs only [go_sem, ↓reduceIte, Nat.reduceEqDiff, Nat.reduceAdd, Nat.reduceSub, Nat.reduceMul, Nat.reduceLeDiff, Nat.reduceLT, Nat.reduceBEq, Nat.reduceBNe, reduceCtorEq, beq_self_eq_true, Int.toNat_natCast, List.length_map, List.length_nil, Int.reduceToNat, Int.reduceAdd, Int.reduceSub, Int.reduceMul, Int.reduceLT, Int.reduceLE, Int.reduceEq, Int.reduceBEq, Int.reduceNeg, decide_true, decide_false, Nat.le_max_left, Nat.le_max_right, ne_eq, not_true_eq_false, not_false_eq_true, Int.natCast_zero, gt_iff_lt, ge_iff_le, Int.reduceGT, Int.reduceGE, Bool.false_and, Bool.and_false, Bool.true_and, Bool.and_true, e2]
      · simp -implicitDefEqProofs only [go_sem, ↓reduceIte, Nat.reduceEqDiff, Nat.reduceAdd, Nat.reduceSub, Nat.reduceMul, Nat.reduceLeDiff, Nat.reduceLT, Nat.reduceBEq, Nat.reduceBNe, reduceCtorEq, beq_self_eq_true, Int.toNat_natCast, List.length_map, List.length_nil, Int.reduceToNat, Int.reduceAdd, Int.reduceSub, Int.reduceMul, Int.reduceLT, Int.reduceLE, Int.reduceEq, Int.reduceBEq, Int.reduceNeg, decide_true, decide_false, Nat.le_max_left, Nat.le_max_right, ne_eq, not_true_eq_false, not_false_eq_true, Int.natCast_zero, gt_iff_lt, ge_iff_le, Int.reduceGT, Int.reduceGE, Bool.false_and, Bool.and_false, Bool.true_and, Bool.and_true, e3]
      · simp -implicitDefEqProofs only [go_sem, ↓reduceIte, Nat.reduceEqDiff, Nat.reduceAdd, Nat.reduceSub, Nat.reduceMul, Nat.reduceLeDiff, Nat.reduceLT, Nat.reduceBEq, Nat.reduceBNe, reduceCtorEq, beq_self_eq_true, Int.toNat_natCast, List.length_map, List.length_nil, Int.reduceToNat, Int.reduceAdd, Int.reduceSub, Int.reduceMul, Int.reduceLT, Int.reduceLE, Int.reduceEq, Int.reduceBEq, Int.reduceNeg, decide_true, decide_false, Nat.le_max_left, Nat.le_max_right, ne_eq, not_true_eq_false, not_false_eq_true, Int.natCast_zero, gt_iff_lt, ge_iff_le, Int.reduceGT, Int.reduceGE, Bool.false_and, Bool.and_false, Bool.true_and, Bool.and_true, e8]
      · simp -implicitDefEqProofs only [go_sem, ↓reduceIte, Nat.reduceEqDiff, Nat.reduceAdd, Nat.reduceSub, Nat.reduceMul, Nat.reduceLeDiff, Nat.reduceLT, Nat.reduceBEq, Nat.reduceBNe, reduceCtorEq, beq_self_eq_true, Int.toNat_natCast, List.length_map, List.length_nil, Int.reduceToNat, Int.reduceAdd, Int.reduceSub, Int.reduceMul, Int.reduceLT, Int.reduceLE, Int.reduceEq, Int.reduceBEq, Int.reduceNeg, decide_true, decide_false, Nat.le_max_left, Nat.le_max_right, ne_eq, not_true_eq_false, not_false_eq_true, Int.natCast_zero, gt_iff_lt, ge_iff_le, Int.reduceGT, Int.reduceGE, Bool.false_and, Bool.and_false, Bool.true_and, Bool.and_true, e9]
      · rw [← hfin']
theorem insOne_len (p : Int → Int → Bool) : ∀ (j : Nat) (l : List Int), (insOne p l j).length = l.length
  | 0, l => rfl
  | j + 1, l => by
    simp only [insOne]
    split
    · rw [insOne_len p j, swapAt_len]
    · rfl
def L157 (H : VHeap) (b ver b2 v2 n : Nat) (c : Conf) (l0 : List Int) (i : Nat) (w : VSt) : Prop := SortIn H b ver b2 v2 c (insAll (pC c) l0 i) ∧ (insAll (pC c) l0 i).length = n ∧ 1 ≤ i ∧ (i ≤ n ∨ i = 1) ∧ gt .bad w.E 0 = .ms b ver 0 n n ∧ gt .bad w.E 1 = dI 0 ∧ gt .bad w.E 2 = dI (n : Nat) ∧ gt .bad w.E 3 = .fn 147 [.mp b2 v2 0 0] ∧ gt .bad w.E 8 = dI (i : Nat) ∧ w.H = HS H b ver (insAll (pC c) l0 i)
theorem sort_l1 (H : VHeap) (b ver b2 v2 n : Nat) (c : Conf) (l0 : List Int) (base : Nat) : ∀ i w, L157 H b ver b2 v2 n c l0 i w → Ok (R PP shF base 53 (.loop ir157_l1) w) (fun e w => e = .exit 0 ∧ w.H = HS H b ver (insAll (pC c) l0 n)) := by
  refine Ok_up n (L157 H b ver b2 v2 n c l0) fun i w hI => ?_
  obtain ⟨E, H'⟩ := w
  obtain ⟨hS, hln, h1, hin, e0, e1, e2, e3, e8, rfl⟩ := hI
  simp only at e0 e1 e2 e3 e8
  have hl := hS.len
  have w1 : IntKind.wrap .i64 ((i : Int) + 1) = ((i + 1 : Nat) : Int) := by rw [w64 (by omega) (by omega)]; rfl
  by_cases hlt : i < n
  · have d1 : decide ((i : Int) < (n : Int)) = true := by simp; omega
    have IH := ins_l0 H b ver b2 v2 n c i base (insAll (pC c) l0 (i + 1)) i
    simp -implicitDefEqProofs only [go_sem, ↓reduceIte, Nat.reduceEqDiff, Nat.reduceAdd, Nat.reduceSub, Nat.reduceMul, Nat.reduceLeDiff, Nat.reduceLT, Nat.reduceBEq, Nat.reduceBNe, reduceCtorEq, beq_self_eq_true, Int.toNat_natCast, List.length_map, List.length_nil, Int.reduceToNat, Int.reduceAdd, Int.reduceSub, Int.reduceMul, Int.reduceLT, Int.reduceLE, Int.reduceEq, Int.reduceBEq, Int.reduceNeg, decide_true, decide_false, Nat.le_max_left, Nat.le_max_right, ne_eq, not_true_eq_false, not_false_eq_true, Int.natCast_zero, gt_iff_lt, ge_iff_le, Int.reduceGT, Int.reduceGE, Bool.false_and, Bool.and_false, Bool.true_and, Bool.and_true, ir157_l1, e0, e1, e2, e3, e8, d1]
    refine (IH _ ⟨insAll (pC c) l0 i, hln, hS, hlt, rfl, ?_, ?_, ?_, ?_, ?_, ?_, rfl⟩).mono ?_
    · simp -implicitDefEqProofs only [go_sem, ↓reduceIte, Nat.reduceEqDiff, Nat.reduceAdd, Nat.reduceSub, Nat.reduceMul, Nat.reduceLeDiff, Nat.reduceLT, Nat.reduceBEq, Nat.reduceBNe, reduceCtorEq, beq_self_eq_true, Int.toNat_natCast, List.length_map, List.length_nil, Int.reduceToNat, Int.reduceAdd, Int.reduceSub, Int.reduceMul, Int.reduceLT, Int.reduceLE, Int.reduceEq, Int.reduceBEq, Int.reduceNeg, decide_true, decide_false, Nat.le_max_left, Nat.le_max_right, ne_eq, not_true_eq_false, not_false_eq_true, Int.natCast_zero, gt_iff_lt, ge_iff_le, Int.reduceGT, Int.reduceGE, Bool.false_and, Bool.and_false, Bool.true_and, Bool.and_true, e0]
    · simp -implicitDefEqProofs only [go_sem, ↓reduceIte, Nat.reduceEqDiff, Nat.reduceAdd, Nat.reduceSub, Nat.reduceMul, Nat.reduceLeDiff, Nat.reduceLT, Nat.reduceBEq, Nat.reduceBNe, reduceCtorEq, beq_self_eq_true, Int.toNat_natCast, List.length_map, List.length_nil, Int.reduceToNat, Int.reduceAdd, Int.reduceSub, Int.reduceMul, Int.reduceLT, Int.reduceLE, Int.reduceEq, Int.reduceBEq, Int.reduceNeg, decide_true, decide_false, Nat.le_max_left, Nat.le_max_right, ne_eq, not_true_eq_false, not_false_eq_true, Int.natCast_zero, gt_iff_lt, ge_iff_le, Int.reduceGT, Int.reduceGE, Bool.false_and, Bool.and_false, Bool.true_and, Bool.and_true, e1]
    · simp -implicitDefEqProofs only [go_sem, ↓reduceIte, Nat.reduceEqDiff, Nat.reduceAdd, Nat.reduceSub, Nat.reduceMul, Nat.reduceLeDiff, Nat.reduceLT, Nat.reduceBEq, Nat.reduceBNe, reduceCtorEq, beq_self_eq_true, Int.toNat_natCast, List.length_map, List.length_nil, Int.reduceToNat, Int.reduceAdd, Int.reduceSub, Int.reduceMul, Int.reduceLT, Int.reduceLE, Int.reduceEq, Int.reduceBEq, Int.reduceNeg, decide_true, decide_false, Nat.le_max_left, Nat.le_max_right, ne_eq, not_true_eq_false, not_false_eq_true, Int.natCast_zero, gt_iff_lt, ge_iff_le, Int.reduceGT, Int.reduceGE, Bool.false_and, Bool.and_false, Bool.true_and, Bool.and_true, e2]
    · simp -implicitDefEqProofs only [go_sem, ↓reduceIte, Nat.reduceEqDiff, Nat.reduceAdd, Nat.reduceSub, Nat.reduceMul, Nat.reduceLeDiff, Nat.reduceLT, Nat.reduceBEq, Nat.reduceBNe, reduceCtorEq, beq_self_eq_true, Int.toNat_natCast, List.length_map, List.length_nil, Int.reduceToNat, Int.reduceAdd, Int.reduceSub, Int.reduceMul, Int.reduceLT, Int.reduceLE, Int.reduceEq, Int.reduceBEq, Int.reduceNeg, decide_true, decide_false, Nat.le_max_left, Nat.le_max_right, ne_eq, not_true_eq_false, not_false_eq_true, Int.natCast_zero, gt_iff_lt, ge_iff_le, Int.reduceGT, Int.reduceGE, Bool.false_and, Bool.and_false, Bool.true_and, Bool.and_true, e3]
    · simp -implicitDefEqProofs only [go_sem, ↓reduceIte, Nat.reduceEqDiff, Nat.reduceAdd, Nat.reduceSub, Nat.reduceMul, Nat.reduceLeDiff, Nat.reduceLT, Nat.reduceBEq, Nat.reduceBNe, reduceCtorEq, beq_self_eq_true, Int.toNat_natCast, List.length_map, List.length_nil, Int.reduceToNat, Int.reduceAdd, Int.reduceSub, Int.reduceMul, Int.reduceLT, Int.reduceLE, Int.reduceEq, Int.reduceBEq, Int.reduceNeg, decide_true, decide_false, Nat.le_max_left, Nat.le_max_right, ne_eq, not_true_eq_false, not_false_eq_true, Int.natCast_zero, gt_iff_lt, ge_iff_le, Int.reduceGT, Int.reduceGE, Bool.false_and, Bool.and_false, Bool.true_and, Bool.and_true, e8]
    · simp -implicitDefEqProofs only [go_sem, ↓reduceIte, Nat.reduceEqDiff, Nat.reduceAdd, Nat.reduceSub, Nat.reduceMul, Nat.reduceLeDiff, Nat.reduceLT, Nat.reduceBEq, Nat.reduceBNe, reduceCtorEq, beq_self_eq_true, Int.toNat_natCast, List.length_map, List.length_nil, Int.reduceToNat, Int.reduceAdd, Int.reduceSub, Int.reduceMul, Int.reduceLT, Int.reduceLE, Int.reduceEq, Int.reduceBEq, Int.reduceNeg, decide_true, decide_false, Nat.le_max_left, Nat.le_max_right, ne_eq, not_true_eq_false, not_false_eq_true, Int.natCast_zero, gt_iff_lt, ge_iff_le, Int.reduceGT, Int.reduceGE, Bool.false_and, Bool.and_false, Bool.true_and, Bool.and_true, e8]
    rintro e ⟨E, H'⟩ ⟨rfl, hS', hln', j, e0, e1, e2, e3, e8, e9, rfl⟩
    simp only at e0 e1 e2 e3 e8 e9
    simp -implicitDefEqProofs only [go_sem, ↓reduceIte, Nat.reduceEqDiff, Nat.reduceAdd, Nat.reduceSub, Nat.reduceMul, Nat.reduceLeDiff, Nat.reduceLT, Nat.reduceBEq, Nat.reduceBNe, reduceCtorEq, beq_self_eq_true, Int.toNat_natCast, List.length_map, List.length_nil, Int.reduceToNat, Int.reduceAdd, Int.reduceSub, Int.reduceMul, Int.reduceLT, Int.reduceLE, Int.reduceEq, Int.reduceBEq, Int.reduceNeg, decide_true, decide_false, Nat.le_max_left, Nat.le_max_right, ne_eq, not_true_eq_false, not_false_eq_true, Int.natCast_zero, gt_iff_lt, ge_iff_le, Int.reduceGT, Int.reduceGE, Bool.false_and, Bool.and_false, Bool.true_and, Bool.and_true, e0, e1, e2, e3, e8, w1]
    refine .next hlt ⟨hS', hln', by omega, by omega, ?_, ?_, ?_, ?_, ?_, rfl⟩
    · simp -implicitDefEqProofs only [go_sem, ↓reduceIte, Nat.reduceEqDiff, Nat.reduceAdd, Nat.reduceSub, Nat.reduceMul, Nat.reduceLeDiff, Nat.reduceLT, Nat.reduceBEq, Nat.reduceBNe, reduceCtorEq, beq_self_eq_true, Int.toNat_natCast, List.length_map, List.length_nil, Int.reduceToNat, Int.reduceAdd, Int.reduceSub, Int.reduceMul, Int.reduceLT, Int.reduceLE, Int.reduceEq, Int.reduceBEq, Int.reduceNeg, decide_true, decide_false, Nat.le_max_left, Nat.le_max_right, ne_eq, not_true_eq_false, not_false_eq_true, Int.natCast_zero, gt_iff_lt, ge_iff_le, Int.reduceGT, Int.reduceGE, Bool.false_and, Bool.and_false, Bool.true_and, Bool.and_true, e0]
    · simp -implicitDefEqProofs only [go_sem, ↓reduceIte, Nat.reduceEqDiff, Nat.reduceAdd, Nat.reduceSub, Nat.reduceMul, Nat.reduceLeDiff, Nat.reduceLT, Nat.reduceBEq, Nat.reduceBNe, reduceCtorEq, beq_self_eq_true, Int.toNat_natCast, List.length_map, List.length_nil, Int.reduceToNat, Int.reduceAdd, Int.reduceSub, Int.reduceMul, Int.reduceLT, Int.reduceLE, Int.reduceEq, Int.reduceBEq, Int.reduceNeg, decide_true, decide_false, Nat.le_max_left, Nat.le_max_right, ne_eq, not_true_eq_false, not_false_eq_true, Int.natCast_zero, gt_iff_lt, ge_iff_le, Int.reduceGT, Int.reduceGE, Bool.false_and, Bool.and_false, Bool.true_and, Bool.and_true, e1]
    · simp -implicitDefEqProofs only [go_sem, ↓reduceIte, Nat.reduceEqDiff, Nat.reduceAdd, Nat.reduceSub, Nat.reduceMul, Nat.reduceLeDiff, Nat.reduceLT, Nat.reduceBEq, Nat.reduceBNe, reduceCtorEq, beq_self_eq_true, Int.toNat_natCast, List.length_map, List.length_nil, Int.reduceToNat, Int.reduceAdd, Int.reduceSub, Int.reduceMul, Int.reduceLT, Int.reduceLE, Int.reduceEq, Int.reduceBEq, Int.reduceNeg, decide_true, decide_false, Nat.le_max_left, Nat.le_max_right, ne_eq, not_true_eq_false, not_false_eq_true, Int.natCast_zero, gt_iff_lt, ge_iff_le, Int.reduceGT, Int.reduceGE, Bool.false_and, Bool.and_false, Bool.true_and, Bool.and_true, e2]
    · simp -implicitDefEqProofs only [go_sem, ↓reduceIte, Nat.reduceEqDiff, Nat.reduceAdd, Nat.reduceSub, Nat.reduceMul, Nat.reduceLeDiff, Nat.reduceLT, Nat.reduceBEq, Nat.reduceBNe, reduceCtorEq, beq_self_eq_true, Int.toNat_natCast, List.length_map, List.length_nil, Int.reduceToNat, Int.reduceAdd, Int.reduceSub, Int.reduceMul, Int.reduceLT, Int.reduceLE, Int.reduceEq, Int.reduceBEq, Int.reduceNeg, decide_true, decide_false, Nat.le_max_left, Nat.le_max_right, ne_eq, not_true_eq_false, not_false_eq_true, Int.natCast_zero, gt_iff_lt, ge_iff_le, Int.reduceGT, Int.reduceGE, Bool.false_and, Bool.and_false, Bool.true_and, Bool.and_true, e3]
    · simp -implicitDefEqProofs only [go_sem, ↓reduceIte, Nat.reduceEqDiff, Nat.reduceAdd, Nat.reduceSub, Nat.reduceMul, Nat.reduceLeDiff, Nat.reduceLT, Nat.reduceBEq, Nat.reduceBNe, reduceCtorEq, beq_self_eq_true, Int.toNat_natCast, List.length_map, List.length_nil, Int.reduceToNat, Int.reduceAdd, Int.reduceSub, Int.reduceMul, Int.reduceLT, Int.reduceLE, Int.reduceEq, Int.reduceBEq, Int.reduceNeg, decide_true, decide_false, Nat.le_max_left, Nat.le_max_right, ne_eq, not_true_eq_false, not_false_eq_true, Int.natCast_zero, gt_iff_lt, ge_iff_le, Int.reduceGT, Int.reduceGE, Bool.false_and, Bool.and_false, Bool.true_and, Bool.and_true, w1]
  · have d1 : decide ((i : Int) < (n : Int)) = false := by simp; omega
    simp -implicitDefEqProofs only [go_sem, ↓reduceIte, Nat.reduceEqDiff, Nat.reduceAdd, Nat.reduceSub, Nat.reduceMul, Nat.reduceLeDiff, Nat.reduceLT, Nat.reduceBEq, Nat.reduceBNe, reduceCtorEq, beq_self_eq_true, Int.toNat_natCast, List.length_map, List.length_nil, Int.reduceToNat, Int.reduceAdd, Int.reduceSub, Int.reduceMul, Int.reduceLT, Int.reduceLE, Int.reduceEq, Int.reduceBEq, Int.reduceNeg, decide_true, decide_false, Nat.le_max_left, Nat.le_max_right, ne_eq, not_true_eq_false, not_false_eq_true, Int.natCast_zero, gt_iff_lt, ge_iff_le, Int.reduceGT, Int.reduceGE, Bool.false_and, Bool.and_false, Bool.true_and, Bool.and_true, ir157_l1, e2, e8, d1]
    refine .exit ⟨rfl, ?_⟩
    have : insAll (pC c) l0 i = insAll (pC c) l0 n := by
      by_cases hn : i = n
      · rw [hn]
      · obtain rfl : i = 1 := by omega
        obtain rfl : n = 0 := by omega
        rfl
    rw [this]
theorem sort_F (c : Conf) (l : List Int) (hl : l.length ≤ 1000) (hm : ∀ x, x ∈ l → 0 ≤ x ∧ x < c.tens.length) : ∀ (H : VHeap) (b ver b2 v2 base : Nat), b ≠ b2 → hg H b2 = ⟨v2, 0, true, [eK c]⟩ → hg H b = ⟨ver, 1, true, l.map eI⟩ → H.length ≤ base →
    F PP shF 157 [.ms b ver 0 l.length l.length, dI 0, dI (l.length : Nat), .fn 147 [.mp b2 v2 0 0]] H base = some (.tup [], hs H b ⟨ver, 1, true, (insAll (pC c) l l.length).map eI⟩) := by
  intro H b ver b2 v2 base hne hb2 hb hbase
  have hbl := hg_lt (H := H) (b := b) (by rw [hb])
  have hself : HS H b ver l = H := by unfold HS; rw [← hb]; exact hs_self hbl
  have hS : SortIn H b ver b2 v2 c (insAll (pC c) l 1) := ⟨hne, hb2, hbl, hl, hm⟩
  have key : OkF (F PP shF 157 [.ms b ver 0 l.length l.length, dI 0, dI (l.length : Nat), .fn 147 [.mp b2 v2 0 0]] H base) (fun d H' => d = .tup [] ∧ H' = HS H b ver (insAll (pC c) l l.length)) := by
    refine F_ok PP157 rfl ⟨by simp [ir157], hbase⟩ ?_
    simp -implicitDefEqProofs only [go_sem, ↓reduceIte, Nat.reduceEqDiff, Nat.reduceAdd, Nat.reduceSub, Nat.reduceMul, Nat.reduceLeDiff, Nat.reduceLT, Nat.reduceBEq, Nat.reduceBNe, reduceCtorEq, beq_self_eq_true, Int.toNat_natCast, List.length_map, List.length_nil, Int.reduceToNat, Int.reduceAdd, Int.reduceSub, Int.reduceMul, Int.reduceLT, Int.reduceLE, Int.reduceEq, Int.reduceBEq, Int.reduceNeg, decide_true, decide_false, Nat.le_max_left, Nat.le_max_right, ne_eq, not_true_eq_false, not_false_eq_true, Int.natCast_zero, gt_iff_lt, ge_iff_le, Int.reduceGT, Int.reduceGE, Bool.false_and, Bool.and_false, Bool.true_and, Bool.and_true, ir157]
    refine (sort_l1 H b ver b2 v2 l.length c l base 1 _ ⟨hS, rfl, by omega, by omega, ?_, ?_, ?_, ?_, ?_, ?_⟩).mono ?_
    · simp -implicitDefEqProofs only [go_sem, ↓reduceIte, Nat.reduceEqDiff, Nat.reduceAdd, Nat.reduceSub, Nat.reduceMul, Nat.reduceLeDiff, Nat.reduceLT, Nat.reduceBEq, Nat.reduceBNe, reduceCtorEq, beq_self_eq_true, Int.toNat_natCast, List.length_map, List.length_nil, Int.reduceToNat, Int.reduceAdd, Int.reduceSub, Int.reduceMul, Int.reduceLT, Int.reduceLE, Int.reduceEq, Int.reduceBEq, Int.reduceNeg, decide_true, decide_false, Nat.le_max_left, Nat.le_max_right, ne_eq, not_true_eq_false, not_false_eq_true, Int.natCast_zero, gt_iff_lt, ge_iff_le, Int.reduceGT, Int.reduceGE, Bool.false_and, Bool.and_false, Bool.true_and, Bool.and_true, ]
    · simp -implicitDefEqProofs only [go_sem, ↓reduceIte, Nat.reduceEqDiff, Nat.reduceAdd, Nat.reduceSub, Nat.reduceMul, Nat.reduceLeDiff, Nat.reduceLT, Nat.reduceBEq, Nat.reduceBNe, reduceCtorEq, beq_self_eq_true, Int.toNat_natCast, List.length_map, List.length_nil, Int.reduceToNat, Int.reduceAdd, Int.reduceSub, Int.reduceMul, Int.reduceLT, Int.reduceLE, Int.reduceEq, Int.reduceBEq, Int.reduceNeg, decide_true, decide_false, Nat.le_max_left, Nat.le_max_right, ne_eq, not_true_eq_false, not_false_eq_true, Int.natCast_zero, gt_iff_lt, ge_iff_le, Int.reduceGT, Int.reduceGE, Bool.false_and, Bool.and_false, Bool.true_and, Bool.and_true, ]
    · simp -implicitDefEqProofs only [go_sem, ↓reduceIte, Nat.reduceEqDiff, Nat.reduceAdd, Nat.reduceSub, Nat.reduceMul, Nat.reduceLeDiff, Nat.reduceLT, Nat.reduceBEq, Nat.reduceBNe, reduceCtorEq, beq_self_eq_true, Int.toNat_natCast, List.length_map, List.length_nil, Int.reduceToNat, Int.reduceAdd, Int.reduceSub, Int.reduceMul, Int.reduceLT, Int.reduceLE, Int.reduceEq, Int.reduceBEq, Int.reduceNeg, decide_true, decide_false, Nat.le_max_left, Nat.le_max_right, ne_eq, not_true_eq_false, not_false_eq_true, Int.natCast_zero, gt_iff_lt, ge_iff_le, Int.reduceGT, Int.reduceGE, Bool.false_and, Bool.and_false, Bool.true_and, Bool.and_true, ]
    · simp -implicitDefEqProofs only [go_sem, ↓reduceIte, Nat.reduceEqDiff, Nat.reduceAdd, Nat.reduceSub, Nat.reduceMul, Nat.reduceLeDiff, Nat.reduceLT, Nat.reduceBEq, Nat.reduceBNe, reduceCtorEq, beq_self_eq_true, Int.toNat_natCast, List.length_map, List.length_nil, Int.reduceToNat, Int.reduceAdd, Int.reduceSub, Int.reduceMul, Int.reduceLT, Int.reduceLE, Int.reduceEq, Int.reduceBEq, Int.reduceNeg, decide_true, decide_false, Nat.le_max_left, Nat.le_max_right, ne_eq, not_true_eq_false, not_false_eq_true, Int.natCast_zero, gt_iff_lt, ge_iff_le, Int.reduceGT, Int.reduceGE, Bool.false_and, Bool.and_false, Bool.true_and, Bool.and_true, ]
    · simp -implicitDefEqProofs only [go_sem, ↓reduceIte, Nat.reduceEqDiff, Nat.reduceAdd, Nat.reduceSub, Nat.reduceMul, Nat.reduceLeDiff, Nat.reduceLT, Nat.reduceBEq, Nat.reduceBNe, reduceCtorEq, beq_self_eq_true, Int.toNat_natCast, List.length_map, List.length_nil, Int.reduceToNat, Int.reduceAdd, Int.reduceSub, Int.reduceMul, Int.reduceLT, Int.reduceLE, Int.reduceEq, Int.reduceBEq, Int.reduceNeg, decide_true, decide_false, Nat.le_max_left, Nat.le_max_right, ne_eq, not_true_eq_false, not_false_eq_true, Int.natCast_zero, gt_iff_lt, ge_iff_le, Int.reduceGT, Int.reduceGE, Bool.false_and, Bool.and_false, Bool.true_and, Bool.and_true, ]
      rfl
    · exact hself.symm
    rintro e ⟨E, H'⟩ ⟨rfl, rfl⟩
    simp -implicitDefEqProofs only [go_sem, ↓reduceIte, Nat.reduceEqDiff, Nat.reduceAdd, Nat.reduceSub, Nat.reduceMul, Nat.reduceLeDiff, Nat.reduceLT, Nat.reduceBEq, Nat.reduceBNe, reduceCtorEq, beq_self_eq_true, Int.toNat_natCast, List.length_map, List.length_nil, Int.reduceToNat, Int.reduceAdd, Int.reduceSub, Int.reduceMul, Int.reduceLT, Int.reduceLE, Int.reduceEq, Int.reduceBEq, Int.reduceNeg, decide_true, decide_false, Nat.le_max_left, Nat.le_max_right, ne_eq, not_true_eq_false, not_false_eq_true, Int.natCast_zero, gt_iff_lt, ge_iff_le, Int.reduceGT, Int.reduceGE, Bool.false_and, Bool.and_false, Bool.true_and, Bool.and_true, ]
  obtain ⟨d, H', h1, rfl, rfl⟩ := key
  rw [h1]; rfl
theorem FV_runI (k : Nat) {g : Nat} {args : List DV} {n : Int} (h : (vmach PP shF k g args [] 0).map (·.1) = some (dI n)) : FV PP shF g args = some (dI n) := by
  simp only [Option.map_eq_some_iff] at h
  obtain ⟨⟨d, H⟩, h1, h2⟩ := h
  simp only at h2; subst h2
  exact FV_of (F_of k h1) rfl
theorem FV_Len (k : Nat) (hk : k ≤ 5) : ∃ v : Int, FV PP shF 154 [.lit (.int .u64 (k : Nat))] = some (dI v) := by
  obtain rfl | rfl | rfl | rfl | rfl | rfl : k = 0 ∨ k = 1 ∨ k = 2 ∨ k = 3 ∨ k = 4 ∨ k = 5 := by omega
  · exact ⟨0, FV_runI 30 (by kernel_rfl)⟩
  · exact ⟨1, FV_runI 30 (by kernel_rfl)⟩
  · exact ⟨2, FV_runI 30 (by kernel_rfl)⟩
  · exact ⟨2, FV_runI 30 (by kernel_rfl)⟩
  · exact ⟨3, FV_runI 30 (by kernel_rfl)⟩
  · exact ⟨3, FV_runI 30 (by kernel_rfl)⟩
theorem pdq_F (c : Conf) (l : List Int) (hl : l.length ≤ 5) (hm : ∀ x, x ∈ l → 0 ≤ x ∧ x < c.tens.length) (v : Int) : ∀ (H : VHeap) (b ver b2 v2 base : Nat), b ≠ b2 → hg H b2 = ⟨v2, 0, true, [eK c]⟩ → hg H b = ⟨ver, 1, true, l.map eI⟩ → H.length ≤ base →
    F PP shF 153 [.ms b ver 0 l.length l.length, dI 0, dI (l.length : Nat), dI v, .fn 147 [.mp b2 v2 0 0]] H base = some (.tup [], hs H b ⟨ver, 1, true, (insAll (pC c) l l.length).map eI⟩) := by
  intro H b ver b2 v2 base hne hb2 hb hbase
  have S := sort_F c l (by omega) hm
  have w1 : IntKind.wrap .i64 ((l.length : Int) - 0) = (l.length : Int) := by rw [w64 (by omega) (by omega)]; omega
  have d1 : decide ((l.length : Int) ≤ 12) = true := by simp; omega
  have key : OkF (F PP shF 153 [.ms b ver 0 l.length l.length, dI 0, dI (l.length : Nat), dI v, .fn 147 [.mp b2 v2 0 0]] H base) (fun d H' => d = .tup [] ∧ H' = hs H b ⟨ver, 1, true, (insAll (pC c) l l.length).map eI⟩) := by
    refine F_ok PP153 rfl ⟨by simp [ir153], hbase⟩ ?_
    have S' : F PP shF 157 [.ms b ver 0 l.length l.length, dI 0, dI (l.length : Nat), .fn 147 [.mp b2 v2 0 0]] H (max H.length (base + 148)) = some (.tup [], hs H b ⟨ver, 1, true, (insAll (pC c) l l.length).map eI⟩) := S H b ver b2 v2 _ hne hb2 hb (by omega)
    simp -implicitDefEqProofs only [go_sem, ↓reduceIte, Nat.reduceEqDiff, Nat.reduceAdd, Nat.reduceSub, Nat.reduceMul, Nat.reduceLeDiff, Nat.reduceLT, Nat.reduceBEq, Nat.reduceBNe, reduceCtorEq, beq_self_eq_true, Int.toNat_natCast, List.length_map, List.length_nil, Int.reduceToNat, Int.reduceAdd, Int.reduceSub, Int.reduceMul, Int.reduceLT, Int.reduceLE, Int.reduceEq, Int.reduceBEq, Int.reduceNeg, decide_true, decide_false, Nat.le_max_left, Nat.le_max_right, ne_eq, not_true_eq_false, not_false_eq_true, Int.natCast_zero, gt_iff_lt, ge_iff_le, Int.reduceGT, Int.reduceGE, Bool.false_and, Bool.and_false, Bool.true_and, Bool.and_true, ir153]
    refine (Ok_up 1 (fun i w => i ≤ 1 ∧ w.H = H ∧ gt .bad w.E 0 = .ms b ver 0 l.length l.length ∧ gt .bad w.E 1 = dI 0 ∧ gt .bad w.E 2 = dI (l.length : Nat) ∧ gt .bad w.E 4 = .fn 147 [.mp b2 v2 0 0]) (Q := fun e w => e = .ret ∧ w.H = hs H b ⟨ver, 1, true, (insAll (pC c) l l.length).map eI⟩) (fun i w hI => ?_) 0 _ ⟨by omega, ?_, ?_, ?_, ?_, ?_⟩).mono ?_
    · obtain ⟨E, H'⟩ := w
      obtain ⟨hi, rfl, e0, e1, e2, e4⟩ := hI
      simp only at e0 e1 e2 e4
      simp -implicitDefEqProofs only [go_sem, ↓reduceIte, Nat.reduceEqDiff, Nat.reduceAdd, Nat.reduceSub, Nat.reduceMul, Nat.reduceLeDiff, Nat.reduceLT, Nat.reduceBEq, Nat.reduceBNe, reduceCtorEq, beq_self_eq_true, Int.toNat_natCast, List.length_map, List.length_nil, Int.reduceToNat, Int.reduceAdd, Int.reduceSub, Int.reduceMul, Int.reduceLT, Int.reduceLE, Int.reduceEq, Int.reduceBEq, Int.reduceNeg, decide_true, decide_false, Nat.le_max_left, Nat.le_max_right, ne_eq, not_true_eq_false, not_false_eq_true, Int.natCast_zero, gt_iff_lt, ge_iff_le, Int.reduceGT, Int.reduceGE, Bool.false_and, Bool.and_false, Bool.true_and, Bool.and_true, ir153_l0, e0, e1, e2, e4, w1, d1, S']
      refine .ret ⟨rfl, ?_⟩
      rfl
    · rfl
    · simp -implicitDefEqProofs only [go_sem, ↓reduceIte, Nat.reduceEqDiff, Nat.reduceAdd, Nat.reduceSub, Nat.reduceMul, Nat.reduceLeDiff, Nat.reduceLT, Nat.reduceBEq, Nat.reduceBNe, reduceCtorEq, beq_self_eq_true, Int.toNat_natCast, List.length_map, List.length_nil, Int.reduceToNat, Int.reduceAdd, Int.reduceSub, Int.reduceMul, Int.reduceLT, Int.reduceLE, Int.reduceEq, Int.reduceBEq, Int.reduceNeg, decide_true, decide_false, Nat.le_max_left, Nat.le_max_right, ne_eq, not_true_eq_false, not_false_eq_true, Int.natCast_zero, gt_iff_lt, ge_iff_le, Int.reduceGT, Int.reduceGE, Bool.false_and, Bool.and_false, Bool.true_and, Bool.and_true, ]
    · simp -implicitDefEqProofs only [go_sem, ↓reduceIte, Nat.reduceEqDiff, Nat.reduceAdd, Nat.reduceSub, Nat.reduceMul, Nat.reduceLeDiff, Nat.reduceLT, Nat.reduceBEq, Nat.reduceBNe, reduceCtorEq, beq_self_eq_true, Int.toNat_natCast, List.length_map, List.length_nil, Int.reduceToNat, Int.reduceAdd, Int.reduceSub, Int.reduceMul, Int.reduceLT, Int.reduceLE, Int.reduceEq, Int.reduceBEq, Int.reduceNeg, decide_true, decide_false, Nat.le_max_left, Nat.le_max_right, ne_eq, not_true_eq_false, not_false_eq_true, Int.natCast_zero, gt_iff_lt, ge_iff_le, Int.reduceGT, Int.reduceGE, Bool.false_and, Bool.and_false, Bool.true_and, Bool.and_true, ]
    · simp -implicitDefEqProofs only [go_sem, ↓reduceIte, Nat.reduceEqDiff, Nat.reduceAdd, Nat.reduceSub, Nat.reduceMul, Nat.reduceLeDiff, Nat.reduceLT, Nat.reduceBEq, Nat.reduceBNe, reduceCtorEq, beq_self_eq_true, Int.toNat_natCast, List.length_map, List.length_nil, Int.reduceToNat, Int.reduceAdd, Int.reduceSub, Int.reduceMul, Int.reduceLT, Int.reduceLE, Int.reduceEq, Int.reduceBEq, Int.reduceNeg, decide_true, decide_false, Nat.le_max_left, Nat.le_max_right, ne_eq, not_true_eq_false, not_false_eq_true, Int.natCast_zero, gt_iff_lt, ge_iff_le, Int.reduceGT, Int.reduceGE, Bool.false_and, Bool.and_false, Bool.true_and, Bool.and_true, ]
    · simp -implicitDefEqProofs only [go_sem, ↓reduceIte, Nat.reduceEqDiff, Nat.reduceAdd, Nat.reduceSub, Nat.reduceMul, Nat.reduceLeDiff, Nat.reduceLT, Nat.reduceBEq, Nat.reduceBNe, reduceCtorEq, beq_self_eq_true, Int.toNat_natCast, List.length_map, List.length_nil, Int.reduceToNat, Int.reduceAdd, Int.reduceSub, Int.reduceMul, Int.reduceLT, Int.reduceLE, Int.reduceEq, Int.reduceBEq, Int.reduceNeg, decide_true, decide_false, Nat.le_max_left, Nat.le_max_right, ne_eq, not_true_eq_false, not_false_eq_true, Int.natCast_zero, gt_iff_lt, ge_iff_le, Int.reduceGT, Int.reduceGE, Bool.false_and, Bool.and_false, Bool.true_and, Bool.and_true, ]
    rintro e ⟨E, H'⟩ ⟨rfl, rfl⟩
    simp -implicitDefEqProofs only [go_sem, ↓reduceIte, Nat.reduceEqDiff, Nat.reduceAdd, Nat.reduceSub, Nat.reduceMul, Nat.reduceLeDiff, Nat.reduceLT, Nat.reduceBEq, Nat.reduceBNe, reduceCtorEq, beq_self_eq_true, Int.toNat_natCast, List.length_map, List.length_nil, Int.reduceToNat, Int.reduceAdd, Int.reduceSub, Int.reduceMul, Int.reduceLT, Int.reduceLE, Int.reduceEq, Int.reduceBEq, Int.reduceNeg, decide_true, decide_false, Nat.le_max_left, Nat.le_max_right, ne_eq, not_true_eq_false, not_false_eq_true, Int.natCast_zero, gt_iff_lt, ge_iff_le, Int.reduceGT, Int.reduceGE, Bool.false_and, Bool.and_false, Bool.true_and, Bool.and_true, ]
  obtain ⟨d, H', h1, rfl, rfl⟩ := key
  rw [h1]
theorem sortFunc_F (c : Conf) (l : List Int) (hl : l.length ≤ 5) (hm : ∀ x, x ∈ l → 0 ≤ x ∧ x < c.tens.length) : ∀ (H : VHeap) (b ver b2 v2 base : Nat), b ≠ b2 → hg H b2 = ⟨v2, 0, true, [eK c]⟩ → hg H b = ⟨ver, 1, true, l.map eI⟩ → H.length ≤ base →
    F PP shF 146 [.ms b ver 0 l.length l.length, .fn 147 [.mp b2 v2 0 0]] H base = some (.tup [], hs H b ⟨ver, 1, true, (insAll (pC c) l l.length).map eI⟩) := by
  intro H b ver b2 v2 base hne hb2 hb hbase
  obtain ⟨v, hv⟩ := FV_Len l.length hl
  have S := pdq_F c l hl hm v H b ver b2 v2 (max H.length (base + 14)) hne hb2 hb (by omega)
  have cu : IntKind.wrap .u64 (l.length : Int) = (l.length : Int) := wu64 (by omega) (by omega)
  rw [F_fun PP146 rfl ⟨by simp [ir146], by simpa using hbase⟩]
  simp -implicitDefEqProofs only [go_sem, ↓reduceIte, Nat.reduceEqDiff, Nat.reduceAdd, Nat.reduceSub, Nat.reduceMul, Nat.reduceLeDiff, Nat.reduceLT, Nat.reduceBEq, Nat.reduceBNe, reduceCtorEq, beq_self_eq_true, Int.toNat_natCast, List.length_map, List.length_nil, Int.reduceToNat, Int.reduceAdd, Int.reduceSub, Int.reduceMul, Int.reduceLT, Int.reduceLE, Int.reduceEq, Int.reduceBEq, Int.reduceNeg, decide_true, decide_false, Nat.le_max_left, Nat.le_max_right, ne_eq, not_true_eq_false, not_false_eq_true, Int.natCast_zero, gt_iff_lt, ge_iff_le, Int.reduceGT, Int.reduceGE, Bool.false_and, Bool.and_false, Bool.true_and, Bool.and_true, ir146, hb, cu, vpS hv rfl, S]
/-- 0, 1, .. -/
def upTo0 (n : Nat) : List Int := (List.range n).map fun (i : Nat) => (i : Int)
def idx0 (n k : Nat) : List Int := (List.range n).map fun (i : Nat) => if i < k then (i : Int) else 0
theorem idx0_len (n k : Nat) : (idx0 n k).length = n := by simp [idx0]
theorem idx0_set (n k : Nat) (h : k < n) : (idx0 n k).set k (k : Int) = idx0 n (k + 1) := by
  apply List.ext_getElem?
  intro i
  unfold idx0
  by_cases hik : i = k
  · subst hik
    rw [List.getElem?_set_self (by simp; exact h)]
    simp [h]
  · rw [List.getElem?_set_ne (by omega)]
    by_cases hi : i < n
    · simp [hi]
      by_cases h1 : i < k
      · rw [if_pos h1, if_pos (by omega)]
      · rw [if_neg h1, if_neg (by omega)]
    · simp [hi]
theorem idx0_zero (n : Nat) : (idx0 n 0).map eI = List.replicate n [dI 0] := by
  unfold idx0
  simp [List.map_const']
theorem idx0_full (n : Nat) : idx0 n n = upTo0 n := by
  unfold idx0 upTo0
  exact List.map_congr_left fun i hi => if_pos (List.mem_range.1 hi)
def L139 (c : Conf) (k : Nat) (w : VSt) : Prop := gt .bad w.E 1 = .mp 1 1 0 0 ∧ hg w.H 1 = ⟨1, 0, true, [eK c]⟩ ∧ gt .bad w.E 3 = .ms 8 1 0 c.tens.length c.tens.length ∧ hg w.H 8 = ⟨1, 1, true, (idx0 c.tens.length k).map eI⟩ ∧ gt .bad w.E 10 = dI (c.tens.length : Nat) ∧ gt .bad w.E 11 = dI (k : Nat) ∧ k ≤ c.tens.length
theorem order_l0 (c : Conf) (hc : Lens c) : ∀ k w, L139 c k w → Ok (R PP shF 0 23 (.loop ir139_l0) w) (fun e w => e = .exit 0 ∧ gt .bad w.E 1 = .mp 1 1 0 0 ∧ hg w.H 1 = ⟨1, 0, true, [eK c]⟩ ∧ gt .bad w.E 3 = .ms 8 1 0 c.tens.length c.tens.length ∧ hg w.H 8 = ⟨1, 1, true, (upTo0 c.tens.length).map eI⟩) := by
  refine Ok_up c.tens.length (L139 c) fun k w hI => ?_
  obtain ⟨E, H⟩ := w
  obtain ⟨e1, h1, e3, h8, e10, e11, hk⟩ := hI
  simp only at e1 h1 e3 h8 e10 e11
  have ht := hc.t
  have w1 : IntKind.wrap .i64 ((k : Int) + 1) = ((k + 1 : Nat) : Int) := by rw [w64 (by omega) (by omega)]; rfl
  by_cases hlt : k < c.tens.length
  · have d1 : decide ((k : Int) < (c.tens.length : Int)) = true := by simp; omega
    have q1 : (k : Int) < (c.tens.length : Int) := by omega
    have q0 : (0 : Int) ≤ (k : Int) := by omega
    have il := idx0_len c.tens.length k
    have g1 := getD_at (l := idx0 c.tens.length k) (i := k) (d := 0) (by omega)
    have t1 : (List.map eI (idx0 c.tens.length k)).set k [dI (k : Nat)] = List.map eI (idx0 c.tens.length (k + 1)) := by
      rw [← idx0_set _ _ hlt]
      exact (List.map_set (f := eI) (l := idx0 c.tens.length k) (i := k) (a := (k : Int))).symm
    simp -implicitDefEqProofs only [go_sem, ↓reduceIte, Nat.reduceEqDiff, Nat.reduceAdd, Nat.reduceSub, Nat.reduceMul, Nat.reduceLeDiff, Nat.reduceLT, Nat.reduceBEq, Nat.reduceBNe, reduceCtorEq, beq_self_eq_true, Int.toNat_natCast, List.length_map, List.length_nil, Int.reduceToNat, Int.reduceAdd, Int.reduceSub, Int.reduceMul, Int.reduceLT, Int.reduceLE, Int.reduceEq, Int.reduceBEq, Int.reduceNeg, decide_true, decide_false, Nat.le_max_left, Nat.le_max_right, ne_eq, not_true_eq_false, not_false_eq_true, Int.natCast_zero, gt_iff_lt, ge_iff_le, Int.reduceGT, Int.reduceGE, Bool.false_and, Bool.and_false, Bool.true_and, Bool.and_true, ir139_l0, e1, h1, e3, h8, e10, e11, d1, q0, q1, g1, il, w1, t1]
    refine .next hlt ⟨?_, ?_, ?_, ?_, ?_, ?_, by omega⟩ <;> simp -implicitDefEqProofs only [go_sem, ↓reduceIte, Nat.reduceEqDiff, Nat.reduceAdd, Nat.reduceSub, Nat.reduceMul, Nat.reduceLeDiff, Nat.reduceLT, Nat.reduceBEq, Nat.reduceBNe, reduceCtorEq, beq_self_eq_true, Int.toNat_natCast, List.length_map, List.length_nil, Int.reduceToNat, Int.reduceAdd, Int.reduceSub, Int.reduceMul, Int.reduceLT, Int.reduceLE, Int.reduceEq, Int.reduceBEq, Int.reduceNeg, decide_true, decide_false, Nat.le_max_left, Nat.le_max_right, ne_eq, not_true_eq_false, not_false_eq_true, Int.natCast_zero, gt_iff_lt, ge_iff_le, Int.reduceGT, Int.reduceGE, Bool.false_and, Bool.and_false, Bool.true_and, Bool.and_true, e1, h1, e3, e10, w1]
  · have : k = c.tens.length := by omega
    subst this
    have d1 : decide ((c.tens.length : Int) < (c.tens.length : Int)) = false := by simp
    simp -implicitDefEqProofs only [go_sem, ↓reduceIte, Nat.reduceEqDiff, Nat.reduceAdd, Nat.reduceSub, Nat.reduceMul, Nat.reduceLeDiff, Nat.reduceLT, Nat.reduceBEq, Nat.reduceBNe, reduceCtorEq, beq_self_eq_true, Int.toNat_natCast, List.length_map, List.length_nil, Int.reduceToNat, Int.reduceAdd, Int.reduceSub, Int.reduceMul, Int.reduceLT, Int.reduceLE, Int.reduceEq, Int.reduceBEq, Int.reduceNeg, decide_true, decide_false, Nat.le_max_left, Nat.le_max_right, ne_eq, not_true_eq_false, not_false_eq_true, Int.natCast_zero, gt_iff_lt, ge_iff_le, Int.reduceGT, Int.reduceGE, Bool.false_and, Bool.and_false, Bool.true_and, Bool.and_true, ir139_l0, e10, e11, d1]
    refine .exit ⟨rfl, ?_, ?_, ?_, ?_⟩
    · simp -implicitDefEqProofs only [go_sem, ↓reduceIte, Nat.reduceEqDiff, Nat.reduceAdd, Nat.reduceSub, Nat.reduceMul, Nat.reduceLeDiff, Nat.reduceLT, Nat.reduceBEq, Nat.reduceBNe, reduceCtorEq, beq_self_eq_true, Int.toNat_natCast, List.length_map, List.length_nil, Int.reduceToNat, Int.reduceAdd, Int.reduceSub, Int.reduceMul, Int.reduceLT, Int.reduceLE, Int.reduceEq, Int.reduceBEq, Int.reduceNeg, decide_true, decide_false, Nat.le_max_left, Nat.le_max_right, ne_eq, not_true_eq_false, not_false_eq_true, Int.natCast_zero, gt_iff_lt, ge_iff_le, Int.reduceGT, Int.reduceGE, Bool.false_and, Bool.and_false, Bool.true_and, Bool.and_true, e1]
    · exact h1
    · simp -implicitDefEqProofs only [go_sem, ↓reduceIte, Nat.reduceEqDiff, Nat.reduceAdd, Nat.reduceSub, Nat.reduceMul, Nat.reduceLeDiff, Nat.reduceLT, Nat.reduceBEq, Nat.reduceBNe, reduceCtorEq, beq_self_eq_true, Int.toNat_natCast, List.length_map, List.length_nil, Int.reduceToNat, Int.reduceAdd, Int.reduceSub, Int.reduceMul, Int.reduceLT, Int.reduceLE, Int.reduceEq, Int.reduceBEq, Int.reduceNeg, decide_true, decide_false, Nat.le_max_left, Nat.le_max_right, ne_eq, not_true_eq_false, not_false_eq_true, Int.natCast_zero, gt_iff_lt, ge_iff_le, Int.reduceGT, Int.reduceGE, Bool.false_and, Bool.and_false, Bool.true_and, Bool.and_true, e3]
    · rw [h8, idx0_full]
def orderL (c : Conf) : List Int := insAll (pC c) (upTo0 c.tens.length) c.tens.length
theorem upTo0_len (n : Nat) : (upTo0 n).length = n := by simp [upTo0]
theorem upTo0_mem {n : Nat} : ∀ x, x ∈ upTo0 n → 0 ≤ x ∧ x < n := by
  intro x hx
  simp only [upTo0, List.mem_map, List.mem_range] at hx
  obtain ⟨i, hi, rfl⟩ := hx
  omega
theorem insAll_len (p : Int → Int → Bool) (l : List Int) : ∀ i : Nat, (insAll p l i).length = l.length
  | 0 => rfl
  | i + 1 => by simp only [insAll, insOne_len, insAll_len p l i]
theorem orderL_len (c : Conf) : (orderL c).length = c.tens.length := by unfold orderL; rw [insAll_len, upTo0_len]
theorem frz_ints {H : VHeap} {b ver n : Nat} {l : List Int} (hb : hg H b = ⟨ver, 1, true, l.map eI⟩) (hn : l.length = n) (k : Nat) : frzD H (k + 1) (.ms b ver 0 n n) = some (.sl (l.map eI)) ∧ freshD H (k + 2) (.ms b ver 0 n n) = true := by
  have ht : List.take n (l.map eI) = l.map eI := List.take_of_length_le (by simp; omega)
  constructor
  · rw [frz_ms, hb]
    simp only [VB.part, ne_eq, Nat.zero_add, List.length_map, hn, Nat.le_refl, and_self, ↓reduceIte, List.drop_zero, ht, Option.bind_some, closed_eI, Nat.reduceEqDiff, not_false_eq_true, reduceCtorEq, Nat.one_ne_zero]
  · have hc := lits_eI l
    simp only [freshD, hb, VB.part, ne_eq, Nat.zero_add, List.length_map, hn, Nat.le_refl, and_self, ↓reduceIte, List.drop_zero, ht, Nat.one_ne_zero, not_false_eq_true]
    rw [List.all_eq_true] at hc ⊢
    intro el hel
    have := hc el hel
    rw [List.all_eq_true] at this ⊢
    exact fun d hd => fresh_of_lit1 (this d hd)
theorem FVF_Order (c : Conf) (hc : Lens c) (ht : c.tens.length ≤ 5) : FVF PP shF 139 [.agg (eK c)] (dL (orderL c)) := by
  refine FVF_ok (F_ok PP139 rfl ⟨by simp [ir139], by simp⟩ ?_)
  have m1 : (0 : Int) ≤ (c.tens.length : Int) ∧ (c.tens.length : Int) ≤ (c.tens.length : Int) ∧ ((8 : Nat) : Int) * (c.tens.length : Int) ≤ 281474976710656 ∧ (c.tens.length : Int) ≤ 9223372036854775807 := by omega
  simp -implicitDefEqProofs only [go_sem, ↓reduceIte, Nat.reduceEqDiff, Nat.reduceAdd, Nat.reduceSub, Nat.reduceMul, Nat.reduceLeDiff, Nat.reduceLT, Nat.reduceBEq, Nat.reduceBNe, reduceCtorEq, beq_self_eq_true, Int.toNat_natCast, List.length_map, List.length_nil, Int.reduceToNat, Int.reduceAdd, Int.reduceSub, Int.reduceMul, Int.reduceLT, Int.reduceLE, Int.reduceEq, Int.reduceBEq, Int.reduceNeg, decide_true, decide_false, Nat.le_max_left, Nat.le_max_right, ne_eq, not_true_eq_false, not_false_eq_true, Int.natCast_zero, gt_iff_lt, ge_iff_le, Int.reduceGT, Int.reduceGE, Bool.false_and, Bool.and_false, Bool.true_and, Bool.and_true, ir139, eK, m1]
  refine (order_l0 c hc 0 _ ⟨?_, ?_, ?_, ?_, ?_, ?_, by omega⟩).mono ?_ <;> (try simp -implicitDefEqProofs only [go_sem, ↓reduceIte, Nat.reduceEqDiff, Nat.reduceAdd, Nat.reduceSub, Nat.reduceMul, Nat.reduceLeDiff, Nat.reduceLT, Nat.reduceBEq, Nat.reduceBNe, reduceCtorEq, beq_self_eq_true, Int.toNat_natCast, List.length_map, List.length_nil, Int.reduceToNat, Int.reduceAdd, Int.reduceSub, Int.reduceMul, Int.reduceLT, Int.reduceLE, Int.reduceEq, Int.reduceBEq, Int.reduceNeg, decide_true, decide_false, Nat.le_max_left, Nat.le_max_right, ne_eq, not_true_eq_false, not_false_eq_true, Int.natCast_zero, gt_iff_lt, ge_iff_le, Int.reduceGT, Int.reduceGE, Bool.false_and, Bool.and_false, Bool.true_and, Bool.and_true, eK, idx0_zero])
  rintro e ⟨E, H⟩ ⟨rfl, e1, h1, e3, h8⟩
  simp only at e1 h1 e3 h8
  have S := fun base hb => sortFunc_F c (upTo0 c.tens.length) (by rw [upTo0_len]; exact ht) upTo0_mem H 8 1 1 1 base (by decide) h1 h8 hb
  simp only [upTo0_len] at S
  have fz : ∀ H' : VHeap, hg H' 8 = ⟨1, 1, true, (orderL c).map eI⟩ → frzD H' 6 (.ms 8 1 0 c.tens.length c.tens.length) = some (dL (orderL c)) ∧ freshD H' 6 (.ms 8 1 0 c.tens.length c.tens.length) = true := fun H' hb => ⟨(frz_ints hb (orderL_len c) 5).1, (frz_ints hb (orderL_len c) 4).2⟩
  simp only [show insAll (pC c) (upTo0 c.tens.length) c.tens.length = orderL c from rfl] at S
  have oc := closed_eI (orderL c)
  have ot : List.take c.tens.length (List.map eI (orderL c)) = List.map eI (orderL c) := List.take_of_length_le (by simp [orderL_len])
  have ol := orderL_len c
  simp -implicitDefEqProofs only [go_sem, ↓reduceIte, Nat.reduceEqDiff, Nat.reduceAdd, Nat.reduceSub, Nat.reduceMul, Nat.reduceLeDiff, Nat.reduceLT, Nat.reduceBEq, Nat.reduceBNe, reduceCtorEq, beq_self_eq_true, Int.toNat_natCast, List.length_map, List.length_nil, Int.reduceToNat, Int.reduceAdd, Int.reduceSub, Int.reduceMul, Int.reduceLT, Int.reduceLE, Int.reduceEq, Int.reduceBEq, Int.reduceNeg, decide_true, decide_false, Nat.le_max_left, Nat.le_max_right, ne_eq, not_true_eq_false, not_false_eq_true, Int.natCast_zero, gt_iff_lt, ge_iff_le, Int.reduceGT, Int.reduceGE, Bool.false_and, Bool.and_false, Bool.true_and, Bool.and_true, e1, e3, S, oc, ot, ol, Nat.le_refl]
  exact (fz _ (by simp -implicitDefEqProofs only [go_sem, ↓reduceIte, Nat.reduceEqDiff, Nat.reduceAdd, Nat.reduceSub, Nat.reduceMul, Nat.reduceLeDiff, Nat.reduceLT, Nat.reduceBEq, Nat.reduceBNe, reduceCtorEq, beq_self_eq_true, Int.toNat_natCast, List.length_map, List.length_nil, Int.reduceToNat, Int.reduceAdd, Int.reduceSub, Int.reduceMul, Int.reduceLT, Int.reduceLE, Int.reduceEq, Int.reduceBEq, Int.reduceNeg, decide_true, decide_false, Nat.le_max_left, Nat.le_max_right, ne_eq, not_true_eq_false, not_false_eq_true, Int.natCast_zero, gt_iff_lt, ge_iff_le, Int.reduceGT, Int.reduceGE, Bool.false_and, Bool.and_false, Bool.true_and, Bool.and_true, ])).2
def ins (p : Int → Int → Bool) (x : Int) : List Int → List Int
  | [] => [x]
  | y :: ys => if p y x = true then y :: ins p x ys else x :: y :: ys
theorem ins_app_no {p : Int → Int → Bool} {x y : Int} (h : p y x = false) : ∀ s : List Int, ins p x (s ++ [y]) = ins p x s ++ [y]
  | [] => by simp [ins, h]
  | z :: s => by
    simp only [List.cons_append, ins]
    split
    · rw [ins_app_no h s]; rfl
    · rfl
theorem ins_all {p : Int → Int → Bool} {x : Int} : ∀ s : List Int, (∀ y, y ∈ s → p y x = true) → ins p x s = s ++ [x]
  | [], _ => rfl
  | z :: s, h => by
    simp only [ins, List.cons_append]
    rw [if_pos (h z (by simp)), ins_all s (fun y hy => h y (by simp [hy]))]
/-- A strict total order. -/
structure STO (p : Int → Int → Bool) : Prop where
  asy : ∀ a b, p a b = true → p b a = false
  tot : ∀ a b, a ≠ b → p a b = false → p b a = true
  trans : ∀ a b c, p a b = true → p b c = true → p a c = true
theorem ins_mem {p : Int → Int → Bool} {x z : Int} : ∀ {s : List Int}, z ∈ ins p x s ↔ z = x ∨ z ∈ s
  | [] => by simp [ins]
  | y :: s => by
    simp only [ins]
    split
    · simp only [List.mem_cons, ins_mem (s := s)]
      constructor
      · rintro (h | h | h)
        · exact .inr (.inl h)
        · exact .inl h
        · exact .inr (.inr h)
      · rintro (h | h | h)
        · exact .inr (.inl h)
        · exact .inl h
        · exact .inr (.inr h)
    · simp only [List.mem_cons]
theorem ins_len {p : Int → Int → Bool} {x : Int} : ∀ {s : List Int}, (ins p x s).length = s.length + 1
  | [] => rfl
  | y :: s => by
    simp only [ins]
    split
    · simp only [List.length_cons, ins_len (s := s)]
    · rfl
theorem ins_sorted {p : Int → Int → Bool} (hp : STO p) {x : Int} : ∀ {s : List Int}, s.Pairwise (fun a b => p a b = true) → x ∉ s → (ins p x s).Pairwise (fun a b => p a b = true)
  | [], _, _ => by simp [ins]
  | y :: s, h, hx => by
    rw [List.pairwise_cons] at h
    simp only [ins]
    split
    · rename_i hy
      rw [List.pairwise_cons]
      refine ⟨fun z hz => ?_, ins_sorted hp h.2 (fun hh => hx (by simp [hh]))⟩
      rcases ins_mem.1 hz with rfl | hz
      · exact hy
      · exact h.1 z hz
    · rename_i hy
      have hxy : p x y = true := hp.tot y x (fun e => hx (by simp [e])) (by simpa using hy)
      rw [List.pairwise_cons]
      refine ⟨fun z hz => ?_, List.pairwise_cons.2 h⟩
      rcases List.mem_cons.1 hz with rfl | hz
      · exact hxy
      · exact hp.trans _ _ _ hxy (h.1 z hz)
theorem insOne_eq {p : Int → Int → Bool} (hp : STO p) (x : Int) : ∀ (n : Nat) (s rest : List Int), s.length = n → s.Pairwise (fun a b => p a b = true) → x ∉ s → insOne p (s ++ x :: rest) n = ins p x s ++ rest
  | 0, s, rest, hn, _, _ => by
    have : s = [] := List.length_eq_zero_iff.1 hn
    subst this
    rfl
  | n + 1, s, rest, hn, hs, hx => by
    obtain ⟨s', y, rfl⟩ : ∃ s' y, s = s' ++ [y] := ⟨s.dropLast, s.getLast (by intro h; simp [h] at hn), (List.dropLast_concat_getLast _).symm⟩
    have hl : s'.length = n := by simpa using hn
    rw [List.pairwise_append] at hs
    have hne : y ≠ x := fun e => hx (by simp [e])
    have g1 : (s' ++ [y] ++ x :: rest).getD (n + 1) 0 = x := by
      rw [List.getD_eq_getElem?_getD, List.getElem?_append_right (by simp; omega)]
      simp [hl]
    have g0 : (s' ++ [y] ++ x :: rest).getD n 0 = y := by
      rw [List.getD_eq_getElem?_getD, List.append_assoc, List.getElem?_append_right (by omega)]
      simp [hl]
    simp only [insOne]
    rw [g1, g0]
    cases hp1 : p x y with
    | true =>
      rw [if_pos rfl]
      have hsw : swapAt (s' ++ [y] ++ x :: rest) n = s' ++ x :: (y :: rest) := by
        unfold swapAt
        rw [g1, g0]
        subst hl
        rw [List.append_assoc, List.set_append_right _ _ (by omega), List.set_append_right _ _ (by omega)]
        simp
      rw [hsw, insOne_eq hp x n s' (y :: rest) hl hs.1 (fun h => hx (by simp [h])), ins_app_no (hp.asy _ _ hp1)]
      simp
    | false =>
      rw [if_neg (by simp), ins_all]
      · simp
      · intro z hz
        have hyx := hp.tot x y (Ne.symm hne) hp1
        rcases List.mem_append.1 hz with hz | hz
        · exact hp.trans _ _ _ (hs.2.2 z hz y (by simp)) hyx
        · have : z = y := by simpa using hz
          rw [this]; exact hyx
/-- The reference's list of the first tenants. -/
def rOrd (p : Int → Int → Bool) : Nat → List Int
  | 0 => []
  | k + 1 => ins p (k : Int) (rOrd p k)
theorem rOrd_len (p : Int → Int → Bool) : ∀ k, (rOrd p k).length = k
  | 0 => rfl
  | k + 1 => by simp only [rOrd, ins_len, rOrd_len p k]
theorem rOrd_mem {p : Int → Int → Bool} {z : Int} : ∀ {k : Nat}, z ∈ rOrd p k ↔ 0 ≤ z ∧ z < k
  | 0 => by simp [rOrd]
  | k + 1 => by simp only [rOrd, ins_mem, rOrd_mem (k := k)]; omega
theorem rOrd_sorted {p : Int → Int → Bool} (hp : STO p) : ∀ k, (rOrd p k).Pairwise (fun a b => p a b = true)
  | 0 => List.Pairwise.nil
  | k + 1 => ins_sorted hp (rOrd_sorted hp k) (fun h => by have := rOrd_mem.1 h; omega)
theorem insAll_rOrd {p : Int → Int → Bool} (hp : STO p) (n : Nat) : ∀ i, i ≤ n → insAll p (upTo0 n) i = rOrd p i ++ (upTo0 n).drop i
  | 0, _ => by simp [insAll, rOrd]
  | i + 1, h => by
    simp only [insAll, rOrd]
    rw [insAll_rOrd hp n i (by omega)]
    have hd : (upTo0 n).drop i = (i : Int) :: (upTo0 n).drop (i + 1) := by
      rw [List.drop_eq_getElem_cons (by rw [upTo0_len]; omega)]
      simp [upTo0]
    rw [hd, insOne_eq hp (i : Int) i _ _ (rOrd_len p i) (rOrd_sorted hp i) (fun h => by have := rOrd_mem.1 h; omega)]
/-- Who comes before whom. -/
def bef (c : Conf) (a b : Int) : Bool := if (ten c a).prio ≠ (ten c b).prio then decide ((ten c a).prio > (ten c b).prio) else if (ten c a).load ≠ (ten c b).load then decide ((ten c a).load > (ten c b).load) else decide (a < b)
theorem pC_bef (c : Conf) (a b : Int) : pC c a b = bef c a b := by
  unfold pC bef ordC or3 cmpI
  rw [Bool.eq_iff_iff, decide_eq_true_iff]
  generalize (ten c a).prio = x1
  generalize (ten c b).prio = x2
  generalize (ten c a).load = y1
  generalize (ten c b).load = y2
  by_cases h1 : x1 = x2
  · subst h1
    by_cases h2 : y1 = y2
    · subst h2
      simp
      repeat' split
      all_goals omega
    · simp [h2]
      repeat' split
      all_goals first | omega | simp_all <;> omega
  · simp [h1]
    repeat' split
    all_goals first | omega | simp_all <;> omega
theorem bef_sto (c : Conf) : STO (bef c) := by
  constructor
  · intro a b h
    unfold bef at h ⊢
    generalize (ten c a).prio = x1 at *
    generalize (ten c b).prio = x2 at *
    generalize (ten c a).load = y1 at *
    generalize (ten c b).load = y2 at *
    repeat' split at h
    all_goals repeat' split
    all_goals simp at *
    all_goals omega
  · intro a b hne h
    unfold bef at h ⊢
    generalize (ten c a).prio = x1 at *
    generalize (ten c b).prio = x2 at *
    generalize (ten c a).load = y1 at *
    generalize (ten c b).load = y2 at *
    repeat' split at h
    all_goals repeat' split
    all_goals simp at *
    all_goals omega
  · intro a b d h h'
    unfold bef at h h' ⊢
    generalize (ten c a).prio = x1 at *
    generalize (ten c b).prio = x2 at *
    generalize (ten c d).prio = x3 at *
    generalize (ten c a).load = y1 at *
    generalize (ten c b).load = y2 at *
    generalize (ten c d).load = y3 at *
    repeat' split at h
    all_goals repeat' split at h'
    all_goals repeat' split
    all_goals simp at *
    all_goals omega
theorem orderL_eq (c : Conf) : orderL c = rOrd (bef c) c.tens.length := by
  have hp : pC c = bef c := funext fun a => funext fun b => pC_bef c a b
  unfold orderL
  rw [hp, insAll_rOrd (bef_sto c) _ _ (Nat.le_refl _), List.drop_of_length_le (by rw [upTo0_len]; exact Nat.le_refl _), List.append_nil]
theorem bit_nat (a r : Nat) : bit (a : Int) (r : Int) = a.testBit r := by
  unfold bit
  rw [Nat.testBit_eq_decide_div_mod_eq, Int.toNat_natCast]
  congr 1
  apply propext
  have : ((a : Int) / 2 ^ r) % 2 = ((a / 2 ^ r % 2 : Nat) : Int) := by
    rw [Int.natCast_emod, Int.natCast_ediv]
    congr 2
  rw [this]
  omega
theorem orI_nat {a b : Nat} (ha : a < 2 ^ 62) (hb : b < 2 ^ 62) : orI .i64 (a : Int) (b : Int) = ((a ||| b : Nat) : Int) := by
  have h := Nat.or_lt_two_pow ha hb
  have e : (BitVec.ofInt IntKind.i64.bits (a : Int) ||| BitVec.ofInt IntKind.i64.bits (b : Int)).toNat = a ||| b := by
    rw [BitVec.toNat_or, BitVec.ofInt_natCast, BitVec.ofInt_natCast, BitVec.toNat_ofNat, BitVec.toNat_ofNat]
    rw [Nat.mod_eq_of_lt (a := a) (by simp [IntKind.bits]; omega), Nat.mod_eq_of_lt (a := b) (by simp [IntKind.bits]; omega)]
  unfold orI
  rw [e]
  exact w64 (by omega) (by omega)
theorem shlN {r : Nat} (h : r < 62) : IntKind.wrap .i64 (1 * 2 ^ min (((r : Nat) : Int)).toNat 64) = ((2 ^ r : Nat) : Int) := by
  rw [Int.toNat_natCast, Nat.min_eq_left (by omega), Int.one_mul]
  have h1 : 2 ^ r < 2 ^ 62 := Nat.pow_lt_pow_right (by decide) h
  have e : (2 : Int) ^ r = ((2 ^ r : Nat) : Int) := (Int.natCast_pow 2 r).symm
  rw [e]
  generalize 2 ^ r = m at h1
  exact w64 (by omega) (by omega)
theorem FV_run (k : Nat) {g : Nat} (h : (vmach PP shF k g [] [] 0).map (·.1) = some (dB true)) : FV PP shF g [] = some (dB true) := by
  simp only [Option.map_eq_some_iff] at h
  obtain ⟨⟨d, H⟩, h1, h2⟩ := h
  simp only at h2; subst h2
  exact FV_B (F_of k h1)
theorem FV_awake05 : FV PP shF 138 [] = some (dB true) := FV_run 60 (by kernel_rfl)
theorem FVF_Order' (c : Conf) (hc : ConfOk c) : FVF PP shF 139 [.agg (eK c)] (dL (rOrd (bef c) c.tens.length)) := by
  have h := FVF_Order c hc.lens hc.t1
  rw [orderL_eq] at h; exact h
def seenN (o : List Int) : Nat → Nat
  | 0 => 0
  | k + 1 => seenN o k ||| 2 ^ (o.getD k 0).toNat
theorem seenN_lt {o : List Int} (hm : ∀ x, x ∈ o → 0 ≤ x ∧ x < 5) : ∀ k, k ≤ o.length → seenN o k < 2 ^ 5
  | 0, _ => by show 0 < 2 ^ 5; decide
  | k + 1, h => by
    have := hm _ (List.mem_of_getElem? (getD_at (l := o) (i := k) (d := 0) (by omega)))
    exact Nat.or_lt_two_pow (seenN_lt hm k (by omega)) (Nat.pow_lt_pow_right (by decide) (by omega))
theorem seenN_bit {o : List Int} (x : Nat) : ∀ k, (seenN o k).testBit x = true → ∃ j, j < k ∧ (o.getD j 0).toNat = x
  | 0, h => by simp [seenN] at h
  | k + 1, h => by
    simp only [seenN, Nat.testBit_or, Bool.or_eq_true, Nat.testBit_two_pow, decide_eq_true_eq] at h
    rcases h with h | h
    · obtain ⟨j, h1, h2⟩ := seenN_bit x k h
      exact ⟨j, by omega, h2⟩
    · exact ⟨k, by omega, h⟩
def L134 (c : Conf) (o : List Int) (k : Nat) (w : VSt) : Prop := gt .bad w.E 3 = .mp 3 1 0 0 ∧ hg w.H 3 = ⟨1, 0, true, [eK c]⟩ ∧ gt .bad w.E 4 = dL o ∧ gt .bad w.E 5 = dI (seenN o k : Nat) ∧ gt .bad w.E 6 = dI (k : Nat) ∧ k ≤ o.length
end Go.Proofs.Cp
