/- What the functions answer (part 0). -/
import Derived.Test.YtbgdpdkkbmlhdaaPP
import Derived.Test.YtbgdpdkkbmlhdaaCpRowS
set_option linter.unusedSimpArgs false
set_option linter.unusedVariables false
set_option maxRecDepth 100000
namespace Go.Proofs.Cp
open Go
theorem FV_of {P : Prog} {sh : Nat → Bool} {g : Nat} {args : List DV} {d e : DV} {H : VHeap} (h : F P sh g args [] 0 = some (d, H)) (hd : frzD H 6 d = some e) : FV P sh g args = some e := by
  unfold FV; rw [h]; exact hd
theorem FV_I {P : Prog} {sh : Nat → Bool} {g : Nat} {args : List DV} {n : Int} {H : VHeap} (h : F P sh g args [] 0 = some (dI n, H)) : FV P sh g args = some (dI n) := FV_of h rfl
theorem FV_B {P : Prog} {sh : Nat → Bool} {g : Nat} {args : List DV} {b : Bool} {H : VHeap} (h : F P sh g args [] 0 = some (dB b, H)) : FV P sh g args = some (dB b) := FV_of h rfl
theorem hs_self {H : VHeap} {b : Nat} (hb : b < H.length) : hs H b (hg H b) = H := by
  apply VHeap.ext'
  · rw [hs_len]; omega
  · intro c
    rw [hg_hs]; split
    · rename_i h; rw [h]
    · rfl
theorem hs_hs (H : VHeap) (b : Nat) (x y : VB) : hs (hs H b x) b y = hs H b y := by
  apply VHeap.ext'
  · rw [hs_len, hs_len, hs_len]; omega
  · intro c
    rw [hg_hs, hg_hs, hg_hs]; split <;> rfl
theorem hg_lt {H : VHeap} {b : Nat} (h : (hg H b).live = true) : b < H.length := by
  rcases Nat.lt_or_ge b H.length with h1 | h1
  · exact h1
  · rw [hg_ge H h1] at h; cases h
/-- A whole number of 64 bits. -/
def I64 (x : Int) : Prop := -9223372036854775808 ≤ x ∧ x ≤ 9223372036854775807
def I64s (l : List Int) : Prop := ∀ x, x ∈ l → I64 x

theorem F_Mod (v n : Int) (hv : I64 v) (h3 : 0 < n) (h4 : n ≤ 4611686018427387904) : F PP shF 16 [dI v, dI n] [] 0 = some (dI (v % n), []) := by
  obtain ⟨h1, h2⟩ := hv
  rw [F_fun PP16 rfl ⟨by simp [ir16], by simp⟩]
  have hn : n ≠ 0 := by omega
  simp -implicitDefEqProofs only [go_sem, ir16, if_neg hn]
  have hlt := Int.tmod_lt_of_pos v h3
  have hge : -n < v.tmod n := by
    have := Int.lt_tmod_of_pos v h3
    exact this
  rw [w64 (by omega) (by omega)]
  congr 4
  rcases Int.le_total 0 v with h | h
  · rw [Int.tmod_eq_emod_of_nonneg h, Int.tmod_eq_emod_of_nonneg (by have := Int.emod_nonneg v hn; omega)]
    simp
  · rw [Int.tmod_eq_emod_of_nonneg (by omega)]
    rw [Int.tmod_eq_emod]
    split
    · simp
    · have : (n.natAbs : Int) = n := by omega
      simp [this, Int.sub_add_cancel]
theorem FV_Mod (v n : Int) (hv : I64 v) (h3 : 0 < n) (h4 : n ≤ 4611686018427387904) : FV PP shF 16 [dI v, dI n] = some (dI (v % n)) := FV_of (F_Mod v n hv h3 h4) rfl
theorem FV_Between (v low high : Int) (hv : I64 v) (h0 : -1000000000 ≤ low) (h1 : low ≤ high) (h2 : high ≤ 1000000000) : FV PP shF 15 [dI v, dI low, dI high] = some (dI (low + v % (high - low + 1))) := by
  refine FV_I (H := []) ?_
  rw [F_fun PP15 rfl ⟨by simp [ir15], by simp⟩]
  have e1 : IntKind.wrap .i64 (high - low) = high - low := w64 (by omega) (by omega)
  have e2 : IntKind.wrap .i64 (high - low + 1) = high - low + 1 := w64 (by omega) (by omega)
  have hm := Int.emod_lt_of_pos v (show 0 < high - low + 1 by omega)
  have hm0 := Int.emod_nonneg v (show high - low + 1 ≠ 0 by omega)
  have e3 : IntKind.wrap .i64 (low + v % (high - low + 1)) = low + v % (high - low + 1) := w64 (by omega) (by omega)
  simp -implicitDefEqProofs only [go_sem, ir15, e1, e2, vpS (FV_Mod _ _ hv (show 0 < high - low + 1 by omega) (by omega)) rfl, e3]
theorem FV_Light (l : List Int) : FV PP shF 11 [dL l] = some (dB (decide (l.length ≤ 200))) := by
  refine FV_B (H := []) ?_
  rw [F_fun PP11 rfl ⟨by simp [ir11], by simp⟩]
  simp only [ir11, go_sem, ↓reduceIte, Nat.reduceEqDiff, reduceCtorEq, List.length_map]
  simp
  omega

/-- A tape. -/
abbrev tapeB (ver : Nat) (L : List Int) (i : Nat) : VB := ⟨ver, 0, true, [[dL L, dI (i : Nat)]]⟩
theorem Next_ex (L : List Int) (i : Nat) (n : Int) (hL : I64s L) (hi : i < 1000000000) (h0 : 0 < n) (hn : n ≤ 1073741824) :
    ∃ (v : Int) (i' : Nat), 0 ≤ v ∧ v < n ∧ i ≤ i' ∧ i' ≤ i + 1 ∧ ∀ (H : VHeap) (b ver base : Nat), hg H b = tapeB ver L i → H.length ≤ base →
      F PP shF 50 [.mp b ver 0 0, dI n] H base = some (dI v, hs H b (tapeB ver L i')) := by
  by_cases hL0 : L = []
  · subst hL0
    refine ⟨0, i, by omega, h0, by omega, by omega, fun H b ver base hb hbase => ?_⟩
    have hself : hs H b (tapeB ver [] i) = H := by rw [← hb]; exact hs_self (hg_lt (by rw [hb]))
    rw [F_fun PP50 rfl ⟨by simp [ir50], by simpa using hbase⟩, hself]
    simp -implicitDefEqProofs only [go_sem, ir50, hb, List.map_nil]
  · have hl : L.length ≠ 0 := by cases L <;> simp_all
    have e1 : ((L.length : Int) == 0) = false := by simp; exact hL0
    have e2 : ¬ (L.length : Int) = 0 := by omega
    have e3 : (i : Int).tmod L.length = ((i % L.length : Nat) : Int) := by rw [Int.tmod_eq_emod_of_nonneg (by omega)]; rfl
    have e4 : (i : Int).tdiv L.length = ((i / L.length : Nat) : Int) := by rw [Int.tdiv_eq_ediv_of_nonneg (by omega)]; rfl
    have hlt : i % L.length < L.length := Nat.mod_lt _ (by omega)
    have e5 : (0 : Int) ≤ ((i % L.length : Nat) : Int) ∧ ((i % L.length : Nat) : Int) < (L.length : Int) := by omega
    have e6 : (L.map fun z => [dI z])[i % L.length]? = some [dI (L.getD (i % L.length) 0)] := by
      rw [List.getElem?_map, List.getElem?_eq_getElem hlt]; simp [List.getD_eq_getElem?_getD, List.getElem?_eq_getElem hlt]
    have hd : i / L.length ≤ i := Nat.div_le_self _ _
    have e7 : IntKind.wrap .i64 ((i : Int) + 1) = ((i + 1 : Nat) : Int) := by rw [w64 (by omega) (by omega)]; rfl
    have hx := hL (L.getD (i % L.length) 0) (by rw [List.getD_eq_getElem?_getD, List.getElem?_eq_getElem hlt]; exact List.getElem_mem hlt)
    refine ⟨((L.getD (i % L.length) 0) % 1073741824 + ((i / L.length : Nat) : Int) * 7) % n, i + 1, Int.emod_nonneg _ (by omega), Int.emod_lt_of_pos _ h0, by omega, by omega, fun H b ver base hb hbase => ?_⟩
    rw [F_fun PP50 rfl ⟨by simp [ir50], by simpa using hbase⟩]
    generalize i / L.length = q at *
    have e10 : IntKind.wrap .i64 (q : Int) = (q : Int) := w64 (by omega) (by omega)
    have e8 : IntKind.wrap .i64 ((q : Int) * 7) = (q : Int) * 7 := w64 (by omega) (by omega)
    have hm := Int.emod_lt_of_pos (L.getD (i % L.length) 0) (show (0 : Int) < 1073741824 by omega)
    have hm0 := Int.emod_nonneg (L.getD (i % L.length) 0) (show (1073741824 : Int) ≠ 0 by omega)
    have e9 : IntKind.wrap .i64 ((L.getD (i % L.length) 0) % 1073741824 + (q : Int) * 7) = (L.getD (i % L.length) 0) % 1073741824 + (q : Int) * 7 := w64 (by omega) (by omega)
    simp -implicitDefEqProofs only [go_sem, ir50, hb, reduceCtorEq, e1, e2, e3, e4, e5, e6, e7, e8, e9, e10, Int.toNat_natCast, List.length_map,
      vpS (FV_Mod _ _ hx (show (0 : Int) < 1073741824 by omega) (by omega)) rfl, vpS (FV_Mod ((L.getD (i % L.length) 0) % 1073741824 + (q : Int) * 7) n ⟨by omega, by omega⟩ h0 (by omega)) rfl]
theorem Range_ex (L : List Int) (i : Nat) (low high : Int) (hL : I64s L) (hi : i < 1000000000) (hl : -1000 ≤ low) (h0 : low ≤ high) (hn : high ≤ 1073740000) :
    ∃ (v : Int) (i' : Nat), low ≤ v ∧ v ≤ high ∧ i ≤ i' ∧ i' ≤ i + 1 ∧ ∀ (H : VHeap) (b ver base : Nat), hg H b = tapeB ver L i → H.length ≤ base →
      F PP shF 61 [.mp b ver 0 0, dI low, dI high] H base = some (dI v, hs H b (tapeB ver L i')) := by
  obtain ⟨v, i', h1, h2, h3, h4, h5⟩ := Next_ex L i (high - low + 1) hL hi (by omega) (by omega)
  refine ⟨low + v, i', by omega, by omega, h3, h4, fun H b ver base hb hbase => ?_⟩
  have e1 : IntKind.wrap .i64 (high - low) = high - low := w64 (by omega) (by omega)
  have e2 : IntKind.wrap .i64 (high - low + 1) = high - low + 1 := w64 (by omega) (by omega)
  have e3 : IntKind.wrap .i64 (low + v) = low + v := w64 (by omega) (by omega)
  rw [F_fun PP61 rfl ⟨by simp [ir61], by simpa using hbase⟩]
  simp -implicitDefEqProofs only [go_sem, ir61, hb, e1, e2, h5, e3]
theorem Yes_ex (L : List Int) (i : Nat) (n : Int) (hL : I64s L) (hi : i < 1000000000) (h0 : 0 < n) (hn : n ≤ 1073741824) :
    ∃ (v : Bool) (i' : Nat), i ≤ i' ∧ i' ≤ i + 1 ∧ ∀ (H : VHeap) (b ver base : Nat), hg H b = tapeB ver L i → H.length ≤ base →
      F PP shF 62 [.mp b ver 0 0, dI n] H base = some (dB v, hs H b (tapeB ver L i')) := by
  obtain ⟨v, i', h1, h2, h3, h4, h5⟩ := Next_ex L i n hL hi h0 hn
  refine ⟨v == 0, i', h3, h4, fun H b ver base hb hbase => ?_⟩
  rw [F_fun PP62 rfl ⟨by simp [ir62], by simpa using hbase⟩]
  simp -implicitDefEqProofs only [go_sem, ir62, hb, h5]
/-- A new tape: one block. -/
theorem F_New (L : List Int) : F PP shF 48 [dL L] [] 0 = some (.mp 5 1 0 0, hs [] 5 (tapeB 1 L 0)) := by
  rw [F_fun PP48 rfl ⟨by simp [ir48], by simp⟩]
  simp -implicitDefEqProofs only [go_sem, ir48]
  rfl
theorem vp_New (L : List Int) (base d : Nat) (H : VHeap) : vpure PP shF base (some d) 48 true false H [dL L] = some (.mp (base + d) ((hg H (base + d)).ver + 1) 0 0, some (hs H (base + d) (tapeB ((hg H (base + d)).ver + 1) L 0))) := by
  unfold vpure
  rw [F_New]
  simp -implicitDefEqProofs only [go_sem, vback]
  rfl
structure Cell where
  zone : Int
  cap : Int
structure Ten where
  load : Int
  shadow : Int
  prio : Int
  lag : Int
  allowed : Int
  group : Int
  noisy : Bool
structure Ver where
  low : Int
  high : Int
structure Conf where
  regions : Int
  zones : List Int
  cells : List Cell
  tens : List Ten
  vers : List Ver
  reps : List Int
  obs : List Int
  blast : Int
  lease : Int
  bake : Int
abbrev eI (z : Int) : List DV := [dI z]
abbrev eC (c : Cell) : List DV := [dI c.zone, dI c.cap]
abbrev eT (t : Ten) : List DV := [dI t.load, dI t.shadow, dI t.prio, dI t.lag, dI t.allowed, dI t.group, dB t.noisy]
abbrev eV (v : Ver) : List DV := [dI v.low, dI v.high]
abbrev eK (c : Conf) : List DV := [dI c.regions, .sl (c.zones.map eI), .sl (c.cells.map eC), .sl (c.tens.map eT), .sl (c.vers.map eV), .sl (c.reps.map eI), .sl (c.obs.map eI), dI c.blast, dI c.lease, dI c.bake]
structure Plc where
  home : Int
  sby : Int
structure Prob where
  conf : Conf
  cells : Int
  head : Bool
abbrev eP (p : Plc) : List DV := [dI p.home, dI p.sby]
abbrev eQ (p : Prob) : List DV := [dI p.conf.regions, .sl (p.conf.zones.map eI), .sl (p.conf.cells.map eC), .sl (p.conf.tens.map eT), .sl (p.conf.vers.map eV), .sl (p.conf.reps.map eI), .sl (p.conf.obs.map eI), dI p.conf.blast, dI p.conf.lease, dI p.conf.bake, dI p.cells, dB p.head]
/-- Where Config stands. -/
structure CS (L : List Int) (s : VSt) (i : Nat) (r bl le ba : Int) (zv cv tv vv rv ov : DV) : Prop where
  e2 : gt .bad s.E 2 = .mp 2 1 0 0
  e3 : gt .bad s.E 3 = .mp 15 1 0 0
  e4 : gt .bad s.E 4 = .mp 4 1 0 0
  h2 : hg s.H 2 = ⟨1, 0, true, [[dI 0, .lit (.slice none 0 0), .lit (.slice none 0 0), .lit (.slice none 0 0), .lit (.slice none 0 0), .lit (.slice none 0 0), .lit (.slice none 0 0), dI 0, dI 0, dI 0]]⟩
  h4 : hg s.H 4 = ⟨1, 0, true, [[dI r, zv, cv, tv, vv, rv, ov, dI bl, dI le, dI ba]]⟩
  h15 : hg s.H 15 = tapeB 1 L i
  hi : i < 100000
/-- The zones: k of them are made. -/
def L0 (L : List Int) (r bl le ba : Int) (k : Nat) (s : VSt) : Prop := ∃ (zs : List Int) (i : Nat) (zv : DV), CS L s i r bl le ba zv (.lit (.slice none 0 0)) (.lit (.slice none 0 0)) (.lit (.slice none 0 0)) (.lit (.slice none 0 0)) (.lit (.slice none 0 0)) ∧
  SlB s.H 49 1 (zs.map eI) zv ∧ i ≤ 10 + k ∧ gt .bad s.E 5 = dI (k : Nat) ∧ zs.length = k ∧ k ≤ 6 ∧ ∀ z, z ∈ zs → 0 ≤ z ∧ z < r
def Q0 (L : List Int) (r bl le ba : Int) (e : Ex) (s : VSt) : Prop := e = .exit 0 ∧ ∃ (zs : List Int) (i : Nat) (zv : DV), CS L s i r bl le ba zv (.lit (.slice none 0 0)) (.lit (.slice none 0 0)) (.lit (.slice none 0 0)) (.lit (.slice none 0 0)) (.lit (.slice none 0 0)) ∧
  SlB s.H 49 1 (zs.map eI) zv ∧ i ≤ 20 ∧ r ≤ (zs.length : Int) ∧ zs.length ≤ 6 ∧ ∀ z, z ∈ zs → 0 ≤ z ∧ z < r
theorem config_l0 (L : List Int) (hL : I64s L) (r bl le ba : Int) (hr : 1 ≤ r ∧ r ≤ 3) : ∀ (k : Nat) s, L0 L r bl le ba k s → Ok (R PP shF 0 182 (.loop ir28_l0) s) (Q0 L r bl le ba) := by
  refine Ok_up 6 (L0 L r bl le ba) fun k s hI => ?_
  obtain ⟨zs, i, zv, C, hz, hi, e5, len, hk, rg⟩ := hI
  obtain ⟨v, i', hv1, hv2, hF⟩ := Yes_ex L i 3 hL (by have := C.hi; omega) (by omega) (by omega)
  obtain ⟨E, H⟩ := s
  obtain ⟨e2, e3, e4, h2, h4, h15, hi0⟩ := C
  simp only at e2 e3 e4 h2 h4 h15 e5 hz
  have w1 : IntKind.wrap .i64 ((k : Int) + 1) = ((k + 1 : Nat) : Int) := by rw [w64 (by omega) (by omega)]; rfl
  have hr0 : ¬ r = 0 := by omega
  have hm : ∀ z, z ∈ zs ++ [(k : Int).tmod r] → 0 ≤ z ∧ z < r := by
    intro z hz
    rcases List.mem_append.1 hz with hz | hz
    · exact rg z hz
    · simp at hz; subst hz
      exact ⟨Int.tmod_nonneg _ (by omega), Int.tmod_lt_of_pos _ (by omega)⟩
  have c1 : ¬ zs.length + 1 ≤ zs.length := by omega
  have c2 : (zs.length + 1) * 8 ≤ 140737488355328 ∧ zs.length ≤ 9223372036854775806 := by omega
  have ht : List.take zs.length (zs.map eI) = zs.map eI := List.take_of_length_le (by simp)
  by_cases hlt : (k : Int) < r
  · have d1 : decide ((k : Int) < r) = true := by simpa using hlt
    rcases hz with ⟨hz, rfl⟩ | ⟨hz, ver, rfl, hb⟩
    · simp -implicitDefEqProofs only [go_sem, ir28_l0, e2, e3, e4, e5, h2, h4, h15, d1, w1, hr0]
      refine .next (by omega) ⟨zs ++ [(k : Int).tmod r], i, .ms 49 ((hg H 49).ver + 1) 0 1 1, ⟨?_, ?_, ?_, ?_, ?_, ?_, hi0⟩, SlB.mk ?_ ?_ ?_, by omega, ?_, by simp [len], by omega, hm⟩ <;> simp -implicitDefEqProofs only [go_sem, e2, e3, e4, e5, h2, h4, h15, w1, List.map_append, hz]
    · simp -implicitDefEqProofs only [go_sem, ir28_l0, e2, e3, e4, e5, h2, h4, h15, d1, w1, hr0, hb, c1, c2, ht]
      refine .next (by omega) ⟨zs ++ [(k : Int).tmod r], i, .ms 49 (ver + 1 + 1) 0 (zs.length + 1) (zs.length + 1), ⟨?_, ?_, ?_, ?_, ?_, ?_, hi0⟩, SlB.mk ?_ ?_ ?_, by omega, ?_, by simp [len], by omega, hm⟩ <;> simp -implicitDefEqProofs only [go_sem, e2, e3, e4, e5, h2, h4, h15, w1, List.map_append, List.length_append]
  · have d1 : decide ((k : Int) < r) = false := by simpa using hlt
    cases v with
    | false =>
      simp -implicitDefEqProofs only [go_sem, ir28_l0, e2, e3, e4, e5, h2, h4, h15, d1, w1, hr0, hF]
      refine .exit ⟨rfl, zs, i', zv, ⟨?_, ?_, ?_, ?_, ?_, ?_, by omega⟩, hz.keep ?_, by omega, by omega, by omega, rg⟩ <;> simp -implicitDefEqProofs only [go_sem, e2, e3, e4, e5, h2, h4, h15, w1]
    | true =>
      by_cases hk6 : (k : Int) < 6
      · have d2 : decide ((k : Int) < 6) = true := by simpa using hk6
        rcases hz with ⟨hz, rfl⟩ | ⟨hz, ver, rfl, hb⟩
        · simp -implicitDefEqProofs only [go_sem, ir28_l0, e2, e3, e4, e5, h2, h4, h15, d1, d2, w1, hr0, hF]
          refine .next (by omega) ⟨zs ++ [(k : Int).tmod r], i', .ms 49 ((hg H 49).ver + 1) 0 1 1, ⟨?_, ?_, ?_, ?_, ?_, ?_, by omega⟩, SlB.mk ?_ ?_ ?_, by omega, ?_, by simp [len], by omega, hm⟩ <;> simp -implicitDefEqProofs only [go_sem, e2, e3, e4, e5, h2, h4, h15, w1, List.map_append, hz]
        · simp -implicitDefEqProofs only [go_sem, ir28_l0, e2, e3, e4, e5, h2, h4, h15, d1, d2, w1, hr0, hb, c1, c2, ht, hF]
          refine .next (by omega) ⟨zs ++ [(k : Int).tmod r], i', .ms 49 (ver + 1 + 1) 0 (zs.length + 1) (zs.length + 1), ⟨?_, ?_, ?_, ?_, ?_, ?_, by omega⟩, SlB.mk ?_ ?_ ?_, by omega, ?_, by simp [len], by omega, hm⟩ <;> simp -implicitDefEqProofs only [go_sem, e2, e3, e4, e5, h2, h4, h15, w1, List.map_append, List.length_append]
      · have d2 : decide ((k : Int) < 6) = false := by simpa using hk6
        simp -implicitDefEqProofs only [go_sem, ir28_l0, e2, e3, e4, e5, h2, h4, h15, d1, d2, w1, hr0, hF]
        refine .exit ⟨rfl, zs, i', zv, ⟨?_, ?_, ?_, ?_, ?_, ?_, by omega⟩, hz.keep ?_, by omega, by omega, by omega, rg⟩ <;> simp -implicitDefEqProofs only [go_sem, e2, e3, e4, e5, h2, h4, h15, w1]
abbrev nilV : DV := .lit (.slice none 0 0)
def L1 (L : List Int) (r bl le ba : Int) (zs : List Int) (k : Nat) (s : VSt) : Prop := ∃ (cs : List Cell) (i : Nat) (zv cv : DV), CS L s i r bl le ba zv cv nilV nilV nilV nilV ∧
  SlB s.H 49 1 (zs.map eI) zv ∧ SlB s.H 78 2 (cs.map eC) cv ∧ i ≤ 30 + 2 * k ∧ gt .bad s.E 6 = dI (k : Nat) ∧ cs.length = k ∧ k ≤ 7 ∧ ∀ c, c ∈ cs → 0 ≤ c.zone ∧ c.zone < zs.length ∧ 10 ≤ c.cap ∧ c.cap ≤ 40
def Q1 (L : List Int) (r bl le ba : Int) (zs : List Int) (e : Ex) (s : VSt) : Prop := e = .exit 2 ∧ ∃ (cs : List Cell) (i : Nat) (zv cv : DV), CS L s i r bl le ba zv cv nilV nilV nilV nilV ∧
  SlB s.H 49 1 (zs.map eI) zv ∧ SlB s.H 78 2 (cs.map eC) cv ∧ i ≤ 60 ∧ zs.length ≤ cs.length ∧ cs.length ≤ 7 ∧ ∀ c, c ∈ cs → 0 ≤ c.zone ∧ c.zone < zs.length ∧ 10 ≤ c.cap ∧ c.cap ≤ 40
theorem config_l1 (L : List Int) (hL : I64s L) (r bl le ba : Int) (zs : List Int) (hz0 : 1 ≤ zs.length) (hz6 : zs.length ≤ 6) : ∀ (k : Nat) s, L1 L r bl le ba zs k s → Ok (R PP shF 0 182 (.loop ir28_l1) s) (Q1 L r bl le ba zs) := by
  refine Ok_up 7 (L1 L r bl le ba zs) fun k s hI => ?_
  obtain ⟨cs, i, zv, cv, C, hz, hc, hi, e6, len, hk, rg⟩ := hI
  obtain ⟨v, i', hv1, hv2, hF⟩ := Yes_ex L i 2 hL (by have := C.hi; omega) (by omega) (by omega)
  obtain ⟨E, H⟩ := s
  obtain ⟨e2, e3, e4, h2, h4, h15, hi0⟩ := C
  simp only at e2 e3 e4 h2 h4 h15 e6 hz hc
  have w1 : IntKind.wrap .i64 ((k : Int) + 1) = ((k + 1 : Nat) : Int) := by rw [w64 (by omega) (by omega)]; rfl
  have hr0 : ¬ (zs.length : Int) = 0 := by omega
  have c1 : ¬ cs.length + 1 ≤ cs.length := by omega
  have c2 : (cs.length + 1) * 16 ≤ 140737488355328 ∧ cs.length ≤ 9223372036854775806 := by omega
  have ht : List.take cs.length (cs.map eC) = cs.map eC := List.take_of_length_le (by simp)
  rcases hz with ⟨hz, rfl⟩ | ⟨hz, verz, rfl, hbz⟩
  · exfalso
    have : zs = [] := by simpa using hz
    subst this; simp at hz0
  have hz : SlB H 49 1 (zs.map eI) (.ms 49 verz 0 (zs.map eI).length (zs.map eI).length) := .inr ⟨hz, verz, rfl, hbz⟩
  have hm : ∀ c : Int, 1 ≤ c → c ≤ 4 → ∀ x : Cell, x ∈ cs ++ [⟨(k : Int).tmod zs.length, c * 10⟩] → 0 ≤ x.zone ∧ x.zone < zs.length ∧ 10 ≤ x.cap ∧ x.cap ≤ 40 := by
    intro c hc1 hc2 x hx
    rcases List.mem_append.1 hx with hx | hx
    · exact rg x hx
    · simp at hx; subst hx
      have q1 : 0 ≤ (k : Int).tmod zs.length := Int.tmod_nonneg _ (by omega)
      have q2 : (k : Int).tmod zs.length < zs.length := Int.tmod_lt_of_pos _ (by omega)
      exact ⟨q1, q2, by simp only; omega, by simp only; omega⟩
  by_cases hlt : (k : Int) < zs.length
  · have d1 : decide ((k : Int) < zs.length) = true := by simpa using hlt
    obtain ⟨c, j, hc1, hc2, hj1, hj2, hG⟩ := Range_ex L i 1 4 hL (by omega) (by omega) (by omega) (by omega)
    have w2 : IntKind.wrap .i64 (c * 10) = c * 10 := w64 (by omega) (by omega)
    rcases hc with ⟨hc, rfl⟩ | ⟨hc, ver, rfl, hb⟩
    · simp -implicitDefEqProofs only [go_sem, ir28_l1, e2, e3, e4, e6, h2, h4, h15, hbz, d1, w1, w2, hr0, hG]
      refine .next (by omega) ⟨cs ++ [⟨(k : Int).tmod zs.length, c * 10⟩], j, _, .ms 78 ((hg H 78).ver + 1) 0 1 1, ⟨?_, ?_, ?_, ?_, ?_, ?_, by omega⟩, hz.keep ?_, SlB.mk ?_ ?_ ?_, by omega, ?_, by simp [len], by omega, hm c hc1 hc2⟩ <;> simp -implicitDefEqProofs only [go_sem, e2, e3, e4, e6, h2, h4, h15, w1, List.map_append, hc]
    · simp -implicitDefEqProofs only [go_sem, ir28_l1, e2, e3, e4, e6, h2, h4, h15, hbz, d1, w1, w2, hr0, hG, hb, c1, c2, ht]
      refine .next (by omega) ⟨cs ++ [⟨(k : Int).tmod zs.length, c * 10⟩], j, _, .ms 78 (ver + 1 + 1) 0 (cs.length + 1) (cs.length + 1), ⟨?_, ?_, ?_, ?_, ?_, ?_, by omega⟩, hz.keep ?_, SlB.mk ?_ ?_ ?_, by omega, ?_, by simp [len], by omega, hm c hc1 hc2⟩ <;> simp -implicitDefEqProofs only [go_sem, e2, e3, e4, e6, h2, h4, h15, w1, List.map_append, List.length_append]
  · have d1 : decide ((k : Int) < zs.length) = false := by simpa using hlt
    cases v with
    | false =>
      simp -implicitDefEqProofs only [go_sem, ir28_l1, e2, e3, e4, e6, h2, h4, h15, hbz, d1, w1, hr0, hF]
      refine .exit ⟨rfl, cs, i', _, cv, ⟨?_, ?_, ?_, ?_, ?_, ?_, by omega⟩, hz.keep ?_, hc.keep ?_, by omega, by omega, by omega, rg⟩ <;> simp -implicitDefEqProofs only [go_sem, e2, e3, e4, e6, h2, h4, h15, w1]
    | true =>
      by_cases hk6 : (k : Int) < 7
      · have d2 : decide ((k : Int) < 7) = true := by simpa using hk6
        obtain ⟨c, j, hc1, hc2, hj1, hj2, hG⟩ := Range_ex L i' 1 4 hL (by omega) (by omega) (by omega) (by omega)
        have w2 : IntKind.wrap .i64 (c * 10) = c * 10 := w64 (by omega) (by omega)
        rcases hc with ⟨hc, rfl⟩ | ⟨hc, ver, rfl, hb⟩
        · simp -implicitDefEqProofs only [go_sem, ir28_l1, e2, e3, e4, e6, h2, h4, h15, hbz, d1, d2, w1, w2, hr0, hF, hG]
          refine .next (by omega) ⟨cs ++ [⟨(k : Int).tmod zs.length, c * 10⟩], j, _, .ms 78 ((hg H 78).ver + 1) 0 1 1, ⟨?_, ?_, ?_, ?_, ?_, ?_, by omega⟩, hz.keep ?_, SlB.mk ?_ ?_ ?_, by omega, ?_, by simp [len], by omega, hm c hc1 hc2⟩ <;> simp -implicitDefEqProofs only [go_sem, e2, e3, e4, e6, h2, h4, h15, w1, List.map_append, hc]
        · simp -implicitDefEqProofs only [go_sem, ir28_l1, e2, e3, e4, e6, h2, h4, h15, hbz, d1, d2, w1, w2, hr0, hF, hG, hb, c1, c2, ht]
          refine .next (by omega) ⟨cs ++ [⟨(k : Int).tmod zs.length, c * 10⟩], j, _, .ms 78 (ver + 1 + 1) 0 (cs.length + 1) (cs.length + 1), ⟨?_, ?_, ?_, ?_, ?_, ?_, by omega⟩, hz.keep ?_, SlB.mk ?_ ?_ ?_, by omega, ?_, by simp [len], by omega, hm c hc1 hc2⟩ <;> simp -implicitDefEqProofs only [go_sem, e2, e3, e4, e6, h2, h4, h15, w1, List.map_append, List.length_append]
      · have d2 : decide ((k : Int) < 7) = false := by simpa using hk6
        simp -implicitDefEqProofs only [go_sem, ir28_l1, e2, e3, e4, e6, h2, h4, h15, hbz, d1, d2, w1, hr0, hF]
        refine .exit ⟨rfl, cs, i', _, cv, ⟨?_, ?_, ?_, ?_, ?_, ?_, by omega⟩, hz.keep ?_, hc.keep ?_, by omega, by omega, by omega, rg⟩ <;> simp -implicitDefEqProofs only [go_sem, e2, e3, e4, e6, h2, h4, h15, w1]
/-- All regions, as a set. -/
def allR (r : Int) : Int := 2 ^ r.toNat - 1
structure TenOk (r : Int) (t : Ten) : Prop where
  l0 : 1 ≤ t.load
  l1 : t.load ≤ 12
  s0 : 0 ≤ t.shadow
  s1 : t.shadow ≤ t.load
  p0 : 0 ≤ t.prio
  p1 : t.prio ≤ 3
  g0 : -1 ≤ t.lag
  g1 : t.lag ≤ 3
  a0 : 1 ≤ t.allowed
  a1 : t.allowed ≤ allR r
  u0 : 0 ≤ t.group
  u1 : t.group ≤ 2
/-- Zones and cells are there. -/
structure ZC (r : Int) (zs : List Int) (cs : List Cell) (H : VHeap) (zv cv : DV) : Prop where
  z : SlB H 49 1 (zs.map eI) zv
  c : SlB H 78 2 (cs.map eC) cv
theorem ZC.keep {r : Int} {zs : List Int} {cs : List Cell} {H H' : VHeap} {zv cv : DV} (h : ZC r zs cs H zv cv) (h1 : hg H' 49 = hg H 49) (h2 : hg H' 78 = hg H 78) : ZC r zs cs H' zv cv := ⟨h.z.keep h1, h.c.keep h2⟩
def L2 (L : List Int) (r bl le ba : Int) (zs : List Int) (cs : List Cell) (k : Nat) (s : VSt) : Prop := ∃ (ts : List Ten) (i : Nat) (zv cv tv : DV), CS L s i r bl le ba zv cv tv nilV nilV nilV ∧ ZC r zs cs s.H zv cv ∧
  SlB s.H 121 7 (ts.map eT) tv ∧ i + 10 * k ≤ 120 ∧ gt .bad s.E 7 = dI (k : Nat) ∧ ts.length + k ≤ 5 ∧ ∀ t, t ∈ ts → TenOk r t
def Q2 (L : List Int) (r bl le ba : Int) (zs : List Int) (cs : List Cell) (e : Ex) (s : VSt) : Prop := e = .exit 4 ∧ ∃ (ts : List Ten) (i : Nat) (zv cv tv : DV), CS L s i r bl le ba zv cv tv nilV nilV nilV ∧ ZC r zs cs s.H zv cv ∧
  SlB s.H 121 7 (ts.map eT) tv ∧ i ≤ 120 ∧ ts.length ≤ 5 ∧ ∀ t, t ∈ ts → TenOk r t
theorem config_l2 (L : List Int) (hL : I64s L) (r bl le ba : Int) (hr : 1 ≤ r ∧ r ≤ 3) (zs : List Int) (cs : List Cell) : ∀ (k : Nat) s, L2 L r bl le ba zs cs k s → Ok (R PP shF 0 182 (.loop ir28_l2) s) (Q2 L r bl le ba zs cs) := by
  refine Ok_dn (L2 L r bl le ba zs cs) fun k s hI => ?_
  obtain ⟨ts, i, zv, cv, tv, C, hzc, ht, hi, e7, len, rg⟩ := hI
  obtain ⟨E, H⟩ := s
  obtain ⟨e2, e3, e4, h2, h4, h15, hi0⟩ := C
  simp only at e2 e3 e4 h2 h4 h15 e7 hzc ht
  by_cases hk : k = 0
  · subst hk
    have d1 : decide (((0 : Nat) : Int) > 0) = false := by simp
    simp -implicitDefEqProofs only [go_sem, ir28_l2, e7]
    refine .exit ⟨rfl, ts, i, zv, cv, tv, ⟨?_, ?_, ?_, ?_, ?_, ?_, by omega⟩, hzc.keep ?_ ?_, ht.keep ?_, by omega, by omega, rg⟩ <;> simp -implicitDefEqProofs only [go_sem, e2, e3, e4, h2, h4, h15]
  · have d1 : decide (0 < (k : Int)) = true := by simp; omega
    have w1 : IntKind.wrap .i64 ((k : Int) - 1) = ((k - 1 : Nat) : Int) := by rw [w64 (by omega) (by omega)]; omega
    have hA : allR r = 1 ∨ allR r = 3 ∨ allR r = 7 := by
      obtain rfl | rfl | rfl : r = 1 ∨ r = 2 ∨ r = 3 := by omega
      · left; rfl
      · right; left; rfl
      · right; right; rfl
    obtain ⟨v1, i1, a1, b1, c1, d1', F1⟩ := Range_ex L i 1 12 hL (by omega) (by omega) (by omega) (by omega)
    obtain ⟨v2, i2, a2, b2, c2, d2', F2⟩ := Next_ex L i1 (v1 + 1) hL (by omega) (by omega) (by omega)
    obtain ⟨v3, i3, a3, b3, c3, d3', F3⟩ := Next_ex L i2 4 hL (by omega) (by omega) (by omega)
    obtain ⟨v4, i4, a4, b4, c4, d4', F4⟩ := Range_ex L i3 (-1) 3 hL (by omega) (by omega) (by omega) (by omega)
    obtain ⟨v5, i5, a5, b5, c5, d5', F5⟩ := Next_ex L i4 3 hL (by omega) (by omega) (by omega)
    obtain ⟨v6, i6, c6, d6', F6⟩ := Yes_ex L i5 4 hL (by omega) (by omega) (by omega)
    obtain ⟨v7, i7, c7, d7', F7⟩ := Yes_ex L i6 4 hL (by omega) (by omega) (by omega)
    obtain ⟨v8, i8, a8, b8, c8, d8', F8⟩ := Range_ex L i7 1 (allR r) hL (by omega) (by omega) (by omega) (by omega)
    have w2 : IntKind.wrap .i64 (v1 + 1) = v1 + 1 := w64 (by omega) (by omega)
    have cu : IntKind.wrap .u64 r = r := by simp [IntKind.wrap, IntKind.min, IntKind.max, IntKind.signed, IntKind.bits]; omega
    have nr : ¬ r < 0 := by omega
    have wA : IntKind.wrap .i64 (IntKind.wrap .i64 (1 * 2 ^ min r.toNat 64) - 1) = allR r := by
      obtain rfl | rfl | rfl : r = 1 ∨ r = 2 ∨ r = 3 := by omega
      · rfl
      · rfl
      · rfl
    have c1' : ¬ ts.length + 1 ≤ ts.length := by omega
    have c2' : (ts.length + 1) * 56 ≤ 140737488355328 ∧ ts.length ≤ 9223372036854775806 := by omega
    have ht' : List.take ts.length (ts.map eT) = ts.map eT := List.take_of_length_le (by simp)
    have hm : ∀ A : Int, 1 ≤ A → A ≤ allR r → ∀ t, t ∈ ts ++ [⟨v1, v2, v3, v4, A, v5, v6⟩] → TenOk r t := by
      intro A hA1 hA2 t hx
      rcases List.mem_append.1 hx with hx | hx
      · exact rg t hx
      · simp at hx; subst hx
        constructor <;> simp only <;> omega
    cases v7 with
    | false =>
      rcases ht with ⟨ht, rfl⟩ | ⟨ht, ver, rfl, hb⟩
      · simp -implicitDefEqProofs only [go_sem, ir28_l2, e2, e3, e4, e7, h2, h4, h15, d1, w1, F1, F2, F3, F4, F5, F6, F7, w2, cu, nr, wA]
        refine .next (m := k - 1) (by omega) ⟨ts ++ [⟨v1, v2, v3, v4, allR r, v5, v6⟩], i7, _, _, .ms 121 ((hg H 121).ver + 1) 0 1 1, ⟨?_, ?_, ?_, ?_, ?_, ?_, by omega⟩, hzc.keep ?_ ?_, SlB.mk ?_ ?_ ?_, by omega, ?_, by simp; omega, hm _ (by omega) (by omega)⟩ <;> simp -implicitDefEqProofs only [go_sem, e2, e3, e4, e7, h2, h4, h15, w1, List.map_append, ht]
      · simp -implicitDefEqProofs only [go_sem, ir28_l2, e2, e3, e4, e7, h2, h4, h15, d1, w1, F1, F2, F3, F4, F5, F6, F7, w2, cu, nr, wA, hb, c1', c2', ht']
        refine .next (m := k - 1) (by omega) ⟨ts ++ [⟨v1, v2, v3, v4, allR r, v5, v6⟩], i7, _, _, .ms 121 (ver + 1 + 1) 0 (ts.length + 1) (ts.length + 1), ⟨?_, ?_, ?_, ?_, ?_, ?_, by omega⟩, hzc.keep ?_ ?_, SlB.mk ?_ ?_ ?_, by omega, ?_, by simp; omega, hm _ (by omega) (by omega)⟩ <;> simp -implicitDefEqProofs only [go_sem, e2, e3, e4, e7, h2, h4, h15, w1, List.map_append, List.length_append]
    | true =>
      rcases ht with ⟨ht, rfl⟩ | ⟨ht, ver, rfl, hb⟩
      · simp -implicitDefEqProofs only [go_sem, ir28_l2, e2, e3, e4, e7, h2, h4, h15, d1, w1, F1, F2, F3, F4, F5, F6, F7, F8, w2, cu, nr, wA]
        refine .next (m := k - 1) (by omega) ⟨ts ++ [⟨v1, v2, v3, v4, v8, v5, v6⟩], i8, _, _, .ms 121 ((hg H 121).ver + 1) 0 1 1, ⟨?_, ?_, ?_, ?_, ?_, ?_, by omega⟩, hzc.keep ?_ ?_, SlB.mk ?_ ?_ ?_, by omega, ?_, by simp; omega, hm _ (by omega) (by omega)⟩ <;> simp -implicitDefEqProofs only [go_sem, e2, e3, e4, e7, h2, h4, h15, w1, List.map_append, ht]
      · simp -implicitDefEqProofs only [go_sem, ir28_l2, e2, e3, e4, e7, h2, h4, h15, d1, w1, F1, F2, F3, F4, F5, F6, F7, F8, w2, cu, nr, wA, hb, c1', c2', ht']
        refine .next (m := k - 1) (by omega) ⟨ts ++ [⟨v1, v2, v3, v4, v8, v5, v6⟩], i8, _, _, .ms 121 (ver + 1 + 1) 0 (ts.length + 1) (ts.length + 1), ⟨?_, ?_, ?_, ?_, ?_, ?_, by omega⟩, hzc.keep ?_ ?_, SlB.mk ?_ ?_ ?_, by omega, ?_, by simp; omega, hm _ (by omega) (by omega)⟩ <;> simp -implicitDefEqProofs only [go_sem, e2, e3, e4, e7, h2, h4, h15, w1, List.map_append, List.length_append]
/-- Zones, cells and tenants are there. -/
structure ZT (r : Int) (zs : List Int) (cs : List Cell) (ts : List Ten) (H : VHeap) (zv cv tv : DV) : Prop where
  z : SlB H 49 1 (zs.map eI) zv
  c : SlB H 78 2 (cs.map eC) cv
  t : SlB H 121 7 (ts.map eT) tv
theorem ZT.keep {r : Int} {zs : List Int} {cs : List Cell} {ts : List Ten} {H H' : VHeap} {zv cv tv : DV} (h : ZT r zs cs ts H zv cv tv) (h1 : hg H' 49 = hg H 49) (h2 : hg H' 78 = hg H 78) (h3 : hg H' 121 = hg H 121) : ZT r zs cs ts H' zv cv tv := ⟨h.z.keep h1, h.c.keep h2, h.t.keep h3⟩
structure VerOk (v : Ver) : Prop where
  l0 : 0 ≤ v.low
  l1 : v.low ≤ 1
  h0 : v.low ≤ v.high
  h1 : v.high ≤ v.low + 2
/-- The versions lie in one of two blocks. -/
def SlV (H : VHeap) (vs : List Ver) (v : DV) : Prop := vs ≠ [] ∧ ∃ b ver, (b = 126 ∨ b = 145) ∧ v = .ms b ver 0 (vs.map eV).length (vs.map eV).length ∧ hg H b = ⟨ver, 2, true, vs.map eV⟩
theorem SlV.keep {H H' : VHeap} {vs : List Ver} {v : DV} (h : SlV H vs v) (h1 : hg H' 126 = hg H 126) (h2 : hg H' 145 = hg H 145) : SlV H' vs v := by
  obtain ⟨h0, b, ver, hb, hv, hh⟩ := h
  refine ⟨h0, b, ver, hb, hv, ?_⟩
  rcases hb with rfl | rfl
  · rw [h1]; exact hh
  · rw [h2]; exact hh
def L3 (L : List Int) (r bl le ba : Int) (zs : List Int) (cs : List Cell) (ts : List Ten) (k : Nat) (s : VSt) : Prop := ∃ (vs : List Ver) (i : Nat) (zv cv tv vv : DV), CS L s i r bl le ba zv cv tv vv nilV nilV ∧ ZT r zs cs ts s.H zv cv tv ∧
  SlV s.H vs vv ∧ i + 10 * k ≤ 180 ∧ gt .bad s.E 10 = dI (k : Nat) ∧ vs.length + k ≤ 3 ∧ (∀ v, v ∈ vs → VerOk v) ∧ ∀ v, vs.head? = some v → v.low = 0
def Q3 (L : List Int) (r bl le ba : Int) (zs : List Int) (cs : List Cell) (ts : List Ten) (e : Ex) (s : VSt) : Prop := e = .exit 6 ∧ ∃ (vs : List Ver) (i : Nat) (zv cv tv vv : DV), CS L s i r bl le ba zv cv tv vv nilV nilV ∧ ZT r zs cs ts s.H zv cv tv ∧
  SlV s.H vs vv ∧ i ≤ 180 ∧ vs.length ≤ 3 ∧ (∀ v, v ∈ vs → VerOk v) ∧ ∀ v, vs.head? = some v → v.low = 0
theorem config_l3 (L : List Int) (hL : I64s L) (r bl le ba : Int) (zs : List Int) (cs : List Cell) (ts : List Ten) : ∀ (k : Nat) s, L3 L r bl le ba zs cs ts k s → Ok (R PP shF 0 182 (.loop ir28_l3) s) (Q3 L r bl le ba zs cs ts) := by
  refine Ok_dn (L3 L r bl le ba zs cs ts) fun k s hI => ?_
  obtain ⟨vs, i, zv, cv, tv, vv, C, hzc, ht, hi, e7, len, rg, hd⟩ := hI
  obtain ⟨E, H⟩ := s
  obtain ⟨e2, e3, e4, h2, h4, h15, hi0⟩ := C
  simp only at e2 e3 e4 h2 h4 h15 e7 hzc ht
  by_cases hk : k = 0
  · subst hk
    simp -implicitDefEqProofs only [go_sem, ir28_l3, e7]
    refine .exit ⟨rfl, vs, i, zv, cv, tv, vv, ⟨?_, ?_, ?_, ?_, ?_, ?_, by omega⟩, hzc.keep ?_ ?_ ?_, ht.keep ?_ ?_, by omega, by omega, rg, hd⟩ <;> simp -implicitDefEqProofs only [go_sem, e2, e3, e4, h2, h4, h15]
  · have d1 : decide (0 < (k : Int)) = true := by simp; omega
    have w1 : IntKind.wrap .i64 ((k : Int) - 1) = ((k - 1 : Nat) : Int) := by rw [w64 (by omega) (by omega)]; omega
    obtain ⟨v1, i1, a1, b1, c1, d1', F1⟩ := Next_ex L i 2 hL (by omega) (by omega) (by omega)
    obtain ⟨v2, i2, a2, b2, c2, d2', F2⟩ := Next_ex L i1 3 hL (by omega) (by omega) (by omega)
    have w2 : IntKind.wrap .i64 (v1 + v2) = v1 + v2 := w64 (by omega) (by omega)
    have c1' : ¬ vs.length + 1 ≤ vs.length := by omega
    have c2' : (vs.length + 1) * 16 ≤ 140737488355328 ∧ vs.length ≤ 9223372036854775806 := by omega
    have ht' : List.take vs.length (vs.map eV) = vs.map eV := List.take_of_length_le (by simp)
    obtain ⟨h0, b, ver, hb, rfl, hh⟩ := ht
    have hm : ∀ t, t ∈ vs ++ [⟨v1, v1 + v2⟩] → VerOk t := by
      intro t hx
      rcases List.mem_append.1 hx with hx | hx
      · exact rg t hx
      · simp at hx; subst hx
        constructor <;> simp only <;> omega
    have hd' : ∀ v : Ver, (vs ++ [(⟨v1, v1 + v2⟩ : Ver)]).head? = some v → v.low = 0 := by
      intro v hv
      refine hd v ?_
      cases vs with
      | nil => exact absurd rfl h0
      | cons a l => exact hv
    have hne : vs ++ [(⟨v1, v1 + v2⟩ : Ver)] ≠ [] := by simp
    rcases hb with rfl | rfl
    · simp -implicitDefEqProofs only [go_sem, ir28_l3, e2, e3, e4, e7, h2, h4, h15, d1, w1, F1, F2, w2, hh, c1', c2', ht']
      refine .next (m := k - 1) (by omega) ⟨vs ++ [⟨v1, v1 + v2⟩], i2, _, _, _, .ms 145 ((hg H 145).ver + 1) 0 (vs.length + 1) (vs.length + 1), ⟨?_, ?_, ?_, ?_, ?_, ?_, by omega⟩, hzc.keep ?_ ?_ ?_, ⟨hne, 145, (hg H 145).ver + 1, .inr rfl, ?_, ?_⟩, by omega, ?_, by simp; omega, hm, hd'⟩ <;> simp -implicitDefEqProofs only [go_sem, e2, e3, e4, e7, h2, h4, h15, w1, List.map_append, List.length_append]
    · simp -implicitDefEqProofs only [go_sem, ir28_l3, e2, e3, e4, e7, h2, h4, h15, d1, w1, F1, F2, w2, hh, c1', c2', ht']
      refine .next (m := k - 1) (by omega) ⟨vs ++ [⟨v1, v1 + v2⟩], i2, _, _, _, .ms 145 (ver + 1 + 1) 0 (vs.length + 1) (vs.length + 1), ⟨?_, ?_, ?_, ?_, ?_, ?_, by omega⟩, hzc.keep ?_ ?_ ?_, ⟨hne, 145, ver + 1 + 1, .inr rfl, ?_, ?_⟩, by omega, ?_, by simp; omega, hm, hd'⟩ <;> simp -implicitDefEqProofs only [go_sem, e2, e3, e4, e7, h2, h4, h15, w1, List.map_append, List.length_append]
/-- Zones, cells, tenants, versions (and replicas) are there. -/
structure ZV (r : Int) (zs : List Int) (cs : List Cell) (ts : List Ten) (vs : List Ver) (rs : List Int) (H : VHeap) (zv cv tv vv rv : DV) : Prop where
  z : SlB H 49 1 (zs.map eI) zv
  c : SlB H 78 2 (cs.map eC) cv
  t : SlB H 121 7 (ts.map eT) tv
  v : SlV H vs vv
  r : SlB H 163 1 (rs.map eI) rv
theorem ZV.keep {r : Int} {zs : List Int} {cs : List Cell} {ts : List Ten} {vs : List Ver} {rs : List Int} {H H' : VHeap} {zv cv tv vv rv : DV} (h : ZV r zs cs ts vs rs H zv cv tv vv rv) (h1 : hg H' 49 = hg H 49) (h2 : hg H' 78 = hg H 78) (h3 : hg H' 121 = hg H 121) (h4 : hg H' 126 = hg H 126) (h5 : hg H' 145 = hg H 145) (h6 : hg H' 163 = hg H 163) : ZV r zs cs ts vs rs H' zv cv tv vv rv := ⟨h.z.keep h1, h.c.keep h2, h.t.keep h3, h.v.keep h4 h5, h.r.keep h6⟩
structure ZR (r : Int) (zs : List Int) (cs : List Cell) (ts : List Ten) (vs : List Ver) (H : VHeap) (zv cv tv vv : DV) : Prop where
  z : SlB H 49 1 (zs.map eI) zv
  c : SlB H 78 2 (cs.map eC) cv
  t : SlB H 121 7 (ts.map eT) tv
  v : SlV H vs vv
theorem ZR.keep {r : Int} {zs : List Int} {cs : List Cell} {ts : List Ten} {vs : List Ver} {H H' : VHeap} {zv cv tv vv : DV} (h : ZR r zs cs ts vs H zv cv tv vv) (h1 : hg H' 49 = hg H 49) (h2 : hg H' 78 = hg H 78) (h3 : hg H' 121 = hg H 121) (h4 : hg H' 126 = hg H 126) (h5 : hg H' 145 = hg H 145) : ZR r zs cs ts vs H' zv cv tv vv := ⟨h.z.keep h1, h.c.keep h2, h.t.keep h3, h.v.keep h4 h5⟩
def L4 (L : List Int) (r bl le ba : Int) (zs : List Int) (cs : List Cell) (ts : List Ten) (vs : List Ver) (rs : List Int) (N : Nat) (k : Nat) (s : VSt) : Prop := ∃ (os : List Int) (i : Nat) (zv cv tv vv rv ov : DV), CS L s i r bl le ba zv cv tv vv rv nilV ∧ ZR r zs cs ts vs s.H zv cv tv vv ∧
  SlB s.H 163 1 (os.map eI) rv ∧ i + 10 * k ≤ 240 ∧ gt .bad s.E 12 = dI (k : Nat) ∧ os.length + k = N ∧ ∀ z, z ∈ os → 0 ≤ z ∧ z < zs.length
def Q4 (L : List Int) (r bl le ba : Int) (zs : List Int) (cs : List Cell) (ts : List Ten) (vs : List Ver) (rs : List Int) (N : Nat) (e : Ex) (s : VSt) : Prop := e = .exit 8 ∧ ∃ (os : List Int) (i : Nat) (zv cv tv vv rv ov : DV), CS L s i r bl le ba zv cv tv vv rv nilV ∧ ZR r zs cs ts vs s.H zv cv tv vv ∧
  SlB s.H 163 1 (os.map eI) rv ∧ i ≤ 240 ∧ os.length = N ∧ ∀ z, z ∈ os → 0 ≤ z ∧ z < zs.length
theorem config_l4 (L : List Int) (hL : I64s L) (r bl le ba : Int) (zs : List Int) (hz0 : 1 ≤ zs.length) (hz6 : zs.length ≤ 6) (cs : List Cell) (ts : List Ten) (vs : List Ver) (rs : List Int) (N : Nat) (hN : N ≤ 4) : ∀ (k : Nat) s, L4 L r bl le ba zs cs ts vs rs N k s → Ok (R PP shF 0 182 (.loop ir28_l4) s) (Q4 L r bl le ba zs cs ts vs rs N) := by
  refine Ok_dn (L4 L r bl le ba zs cs ts vs rs N) fun k s hI => ?_
  obtain ⟨os, i, zv, cv, tv, vv, rv, ov, C, hzc, ht, hi, e7, len, rg⟩ := hI
  obtain ⟨E, H⟩ := s
  obtain ⟨e2, e3, e4, h2, h4, h15, hi0⟩ := C
  simp only at e2 e3 e4 h2 h4 h15 e7 hzc ht
  by_cases hk : k = 0
  · subst hk
    simp -implicitDefEqProofs only [go_sem, ir28_l4, e7]
    refine .exit ⟨rfl, os, i, zv, cv, tv, vv, rv, ov, ⟨?_, ?_, ?_, ?_, ?_, ?_, by omega⟩, hzc.keep ?_ ?_ ?_ ?_ ?_, ht.keep ?_, by omega, by omega, rg⟩ <;> simp -implicitDefEqProofs only [go_sem, e2, e3, e4, h2, h4, h15]
  · have d1 : decide (0 < (k : Int)) = true := by simp; omega
    have w1 : IntKind.wrap .i64 ((k : Int) - 1) = ((k - 1 : Nat) : Int) := by rw [w64 (by omega) (by omega)]; omega
    obtain ⟨v1, i1, a1, b1, c1, d1', F1⟩ := Next_ex L i zs.length hL (by omega) (by omega) (by omega)
    have c1' : ¬ os.length + 1 ≤ os.length := by omega
    have c2' : (os.length + 1) * 8 ≤ 140737488355328 ∧ os.length ≤ 9223372036854775806 := by omega
    have ht' : List.take os.length (os.map eI) = os.map eI := List.take_of_length_le (by simp)
    have hz := hzc.z
    rcases hz with ⟨hz, rfl⟩ | ⟨hz, verz, rfl, hbz⟩
    · exfalso
      have : zs = [] := by simpa using hz
      subst this; simp at hz0
    have hm : ∀ t, t ∈ os ++ [v1] → 0 ≤ t ∧ t < zs.length := by
      intro t hx
      rcases List.mem_append.1 hx with hx | hx
      · exact rg t hx
      · simp at hx; subst hx; omega
    rcases ht with ⟨ht, rfl⟩ | ⟨ht, ver, rfl, hb⟩
    · simp -implicitDefEqProofs only [go_sem, ir28_l4, e2, e3, e4, e7, h2, h4, h15, d1, w1, F1, hbz]
      refine .next (m := k - 1) (by omega) ⟨os ++ [v1], i1, _, _, _, _, .ms 163 ((hg H 163).ver + 1) 0 1 1, ov, ⟨?_, ?_, ?_, ?_, ?_, ?_, by omega⟩, hzc.keep ?_ ?_ ?_ ?_ ?_, SlB.mk ?_ ?_ ?_, by omega, ?_, by simp; omega, hm⟩ <;> simp -implicitDefEqProofs only [go_sem, e2, e3, e4, e7, h2, h4, h15, w1, List.map_append, ht]
    · simp -implicitDefEqProofs only [go_sem, ir28_l4, e2, e3, e4, e7, h2, h4, h15, d1, w1, F1, hbz, hb, c1', c2', ht']
      refine .next (m := k - 1) (by omega) ⟨os ++ [v1], i1, _, _, _, _, .ms 163 (ver + 1 + 1) 0 (os.length + 1) (os.length + 1), ov, ⟨?_, ?_, ?_, ?_, ?_, ?_, by omega⟩, hzc.keep ?_ ?_ ?_ ?_ ?_, SlB.mk ?_ ?_ ?_, by omega, ?_, by simp; omega, hm⟩ <;> simp -implicitDefEqProofs only [go_sem, e2, e3, e4, e7, h2, h4, h15, w1, List.map_append, List.length_append]
def L5 (L : List Int) (r bl le ba : Int) (zs : List Int) (cs : List Cell) (ts : List Ten) (vs : List Ver) (rs : List Int) (N : Nat) (k : Nat) (s : VSt) : Prop := ∃ (os : List Int) (i : Nat) (zv cv tv vv rv ov : DV), CS L s i r bl le ba zv cv tv vv rv ov ∧ ZV r zs cs ts vs rs s.H zv cv tv vv rv ∧
  SlB s.H 179 1 (os.map eI) ov ∧ i + 10 * k ≤ 300 ∧ gt .bad s.E 13 = dI (k : Nat) ∧ os.length + k = N ∧ ∀ z, z ∈ os → 0 ≤ z ∧ z < zs.length
def Q5 (L : List Int) (r bl le ba : Int) (zs : List Int) (cs : List Cell) (ts : List Ten) (vs : List Ver) (rs : List Int) (N : Nat) (e : Ex) (s : VSt) : Prop := e = .exit 10 ∧ ∃ (os : List Int) (i : Nat) (zv cv tv vv rv ov : DV), CS L s i r bl le ba zv cv tv vv rv ov ∧ ZV r zs cs ts vs rs s.H zv cv tv vv rv ∧
  SlB s.H 179 1 (os.map eI) ov ∧ i ≤ 300 ∧ os.length = N ∧ ∀ z, z ∈ os → 0 ≤ z ∧ z < zs.length
theorem config_l5 (L : List Int) (hL : I64s L) (r bl le ba : Int) (zs : List Int) (hz0 : 1 ≤ zs.length) (hz6 : zs.length ≤ 6) (cs : List Cell) (ts : List Ten) (vs : List Ver) (rs : List Int) (N : Nat) (hN : N ≤ 4) : ∀ (k : Nat) s, L5 L r bl le ba zs cs ts vs rs N k s → Ok (R PP shF 0 182 (.loop ir28_l5) s) (Q5 L r bl le ba zs cs ts vs rs N) := by
  refine Ok_dn (L5 L r bl le ba zs cs ts vs rs N) fun k s hI => ?_
  obtain ⟨os, i, zv, cv, tv, vv, rv, ov, C, hzc, ht, hi, e7, len, rg⟩ := hI
  obtain ⟨E, H⟩ := s
  obtain ⟨e2, e3, e4, h2, h4, h15, hi0⟩ := C
  simp only at e2 e3 e4 h2 h4 h15 e7 hzc ht
  by_cases hk : k = 0
  · subst hk
    simp -implicitDefEqProofs only [go_sem, ir28_l5, e7]
    refine .exit ⟨rfl, os, i, zv, cv, tv, vv, rv, ov, ⟨?_, ?_, ?_, ?_, ?_, ?_, by omega⟩, hzc.keep ?_ ?_ ?_ ?_ ?_ ?_, ht.keep ?_, by omega, by omega, rg⟩ <;> simp -implicitDefEqProofs only [go_sem, e2, e3, e4, h2, h4, h15]
  · have d1 : decide (0 < (k : Int)) = true := by simp; omega
    have w1 : IntKind.wrap .i64 ((k : Int) - 1) = ((k - 1 : Nat) : Int) := by rw [w64 (by omega) (by omega)]; omega
    obtain ⟨v1, i1, a1, b1, c1, d1', F1⟩ := Next_ex L i zs.length hL (by omega) (by omega) (by omega)
    have c1' : ¬ os.length + 1 ≤ os.length := by omega
    have c2' : (os.length + 1) * 8 ≤ 140737488355328 ∧ os.length ≤ 9223372036854775806 := by omega
    have ht' : List.take os.length (os.map eI) = os.map eI := List.take_of_length_le (by simp)
    have hz := hzc.z
    rcases hz with ⟨hz, rfl⟩ | ⟨hz, verz, rfl, hbz⟩
    · exfalso
      have : zs = [] := by simpa using hz
      subst this; simp at hz0
    have hm : ∀ t, t ∈ os ++ [v1] → 0 ≤ t ∧ t < zs.length := by
      intro t hx
      rcases List.mem_append.1 hx with hx | hx
      · exact rg t hx
      · simp at hx; subst hx; omega
    rcases ht with ⟨ht, rfl⟩ | ⟨ht, ver, rfl, hb⟩
    · simp -implicitDefEqProofs only [go_sem, ir28_l5, e2, e3, e4, e7, h2, h4, h15, d1, w1, F1, hbz]
      refine .next (m := k - 1) (by omega) ⟨os ++ [v1], i1, _, _, _, _, rv, .ms 179 ((hg H 179).ver + 1) 0 1 1, ⟨?_, ?_, ?_, ?_, ?_, ?_, by omega⟩, hzc.keep ?_ ?_ ?_ ?_ ?_ ?_, SlB.mk ?_ ?_ ?_, by omega, ?_, by simp; omega, hm⟩ <;> simp -implicitDefEqProofs only [go_sem, e2, e3, e4, e7, h2, h4, h15, w1, List.map_append, ht]
    · simp -implicitDefEqProofs only [go_sem, ir28_l5, e2, e3, e4, e7, h2, h4, h15, d1, w1, F1, hbz, hb, c1', c2', ht']
      refine .next (m := k - 1) (by omega) ⟨os ++ [v1], i1, _, _, _, _, rv, .ms 179 (ver + 1 + 1) 0 (os.length + 1) (os.length + 1), ⟨?_, ?_, ?_, ?_, ?_, ?_, by omega⟩, hzc.keep ?_ ?_ ?_ ?_ ?_ ?_, SlB.mk ?_ ?_ ?_, by omega, ?_, by simp; omega, hm⟩ <;> simp -implicitDefEqProofs only [go_sem, e2, e3, e4, e7, h2, h4, h15, w1, List.map_append, List.length_append]
/-- What every configuration out of a tape is. -/
structure ConfOk (k : Conf) : Prop where
  r0 : 1 ≤ k.regions
  r1 : k.regions ≤ 3
  z0 : k.regions ≤ (k.zones.length : Int)
  z1 : k.zones.length ≤ 6
  zs : ∀ z, z ∈ k.zones → 0 ≤ z ∧ z < k.regions
  c0 : k.zones.length ≤ k.cells.length
  c1 : k.cells.length ≤ 7
  cs : ∀ x, x ∈ k.cells → 0 ≤ x.zone ∧ x.zone < (k.zones.length : Int) ∧ 10 ≤ x.cap ∧ x.cap ≤ 40
  t1 : k.tens.length ≤ 5
  ts : ∀ x, x ∈ k.tens → TenOk k.regions x
  v0 : k.vers ≠ []
  v1 : k.vers.length ≤ 3
  vs : ∀ x, x ∈ k.vers → VerOk x
  vh : ∀ v, k.vers.head? = some v → v.low = 0
  ps : k.reps.length = 1 ∨ k.reps.length = 3
  pz : ∀ z, z ∈ k.reps → 0 ≤ z ∧ z < (k.zones.length : Int)
  o0 : 1 ≤ k.obs.length
  o1 : k.obs.length ≤ 4
  oz : ∀ z, z ∈ k.obs → 0 ≤ z ∧ z < (k.zones.length : Int)
  b0 : 1 ≤ k.blast
  b1 : k.blast ≤ 3
  l0 : 2 ≤ k.lease
  l1 : k.lease ≤ 12
  k0 : 0 ≤ k.bake
  k1 : k.bake ≤ 8
theorem closed_eI (l : List Int) : (l.map eI).all closedL = true := by simp [List.all_eq_true, closedL, closedD]
theorem closed_eC (l : List Cell) : (l.map eC).all closedL = true := by simp [List.all_eq_true, closedL, closedD]
theorem closed_eT (l : List Ten) : (l.map eT).all closedL = true := by simp [List.all_eq_true, closedL, closedD]
theorem closed_eV (l : List Ver) : (l.map eV).all closedL = true := by simp [List.all_eq_true, closedL, closedD]
theorem lits_eI (l : List Int) : (l.map eI).all (fun el => el.all lit1) = true := by simp [List.all_eq_true, lit1]
theorem SlV.frz {H : VHeap} {vs : List Ver} {v : DV} (h : SlV H vs v) (n : Nat) : frzD H (n + 1) v = some (.sl (vs.map eV)) := by
  obtain ⟨_, b, ver, _, rfl, hb⟩ := h
  rw [frz_ms, hb]
  have ht : List.take vs.length (vs.map eV) = vs.map eV := List.take_of_length_le (by simp)
  simp only [VB.part, Nat.zero_add, Nat.le_refl, and_self, ne_eq, ↓reduceIte, List.drop_zero, List.length_map, ht, Option.bind_some, closed_eV, Nat.reduceEqDiff, not_false_eq_true, reduceCtorEq, and_true, true_and]
theorem SlV.one {H : VHeap} {vs : List Ver} {v : DV} (h : SlV H vs v) : oneD v = true := by
  obtain ⟨_, b, ver, _, rfl, _⟩ := h; rfl
theorem FV_Config (l : List Int) (hl : I64s l) : ∃ c, ConfOk c ∧ FV PP shF 28 [dL l] = some (.agg (eK c)) := by
  obtain ⟨v1, i1, a1, b1, c1, d1, F1⟩ := Next_ex l 0 5 hl (by omega) (by omega) (by omega)
  obtain ⟨v2, i2, a2, b2, c2, d2, F2⟩ := Range_ex l i1 1 3 hl (by omega) (by omega) (by omega) (by omega)
  obtain ⟨v3, i3, a3, b3, c3, d3, F3⟩ := Range_ex l i2 2 12 hl (by omega) (by omega) (by omega) (by omega)
  obtain ⟨v4, i4, a4, b4, c4, d4, F4⟩ := Next_ex l i3 9 hl (by omega) (by omega) (by omega)
  have w1 : IntKind.wrap .i64 (v1 + 1) = v1 + 1 := w64 (by omega) (by omega)
  have B1 := FV_Between (v1 + 1) 1 3 ⟨by omega, by omega⟩ (by omega) (by omega) (by omega)
  have hr : 1 ≤ 1 + (v1 + 1) % (3 - 1 + 1) ∧ 1 + (v1 + 1) % (3 - 1 + 1) ≤ 3 := by omega
  generalize 1 + (v1 + 1) % (3 - 1 + 1) = r at B1 hr
  suffices hs : OkF (F PP shF 28 [dL l] [] 0) (fun d H => ∃ c, ConfOk c ∧ frzD H 6 d = some (.agg (eK c))) by
    obtain ⟨d, H, h1, c, h2, h3⟩ := hs
    exact ⟨c, h2, FV_of h1 h3⟩
  refine F_ok PP28 rfl ⟨by simp [ir28], by simp⟩ ?_
  simp -implicitDefEqProofs only [go_sem, ir28, vp_New, F1, F2, F3, F4, w1, vpS B1 rfl]
  refine (config_l0 l hl r v2 v3 v4 hr 0 _ ?_).mono ?_
  · refine ⟨[], i4, _, ⟨?_, ?_, ?_, ?_, ?_, ?_, by omega⟩, SlB.nil, by omega, ?_, rfl, by omega, by simp⟩ <;> simp -implicitDefEqProofs only [go_sem, ]
  rintro e ⟨E, H⟩ ⟨rfl, zs, i, zv, ⟨e2, e3, e4, h2, h4, h15, hi0⟩, hz, hi, hzr, hz6, rgz⟩
  simp only at e2 e3 e4 h2 h4 h15 hz
  simp -implicitDefEqProofs only [go_sem, ]
  refine (config_l1 l hl r v2 v3 v4 zs (by omega) hz6 0 _ ?_).mono ?_
  · refine ⟨[], i, zv, _, ⟨?_, ?_, ?_, ?_, ?_, ?_, by omega⟩, hz.keep ?_, SlB.nil, by omega, ?_, rfl, by omega, by simp⟩ <;> simp -implicitDefEqProofs only [go_sem, e2, e3, e4, h2, h4, h15]
  clear e2 e3 e4 h2 h4 h15 hz hi hi0 F1 F2 F3 F4 c1 c2 c3 c4 d1 d2 d3 d4 B1
  rintro e ⟨E, H⟩ ⟨rfl, cs, i, zv, cv, ⟨e2, e3, e4, h2, h4, h15, hi0⟩, hz, hc, hi, hc0, hc7, rgc⟩
  simp only at e2 e3 e4 h2 h4 h15 hz hc
  obtain ⟨u1, j1, p1, q1, c1, d1, F1⟩ := Next_ex l i 6 hl (by omega) (by omega) (by omega)
  simp -implicitDefEqProofs only [go_sem, e3, h15, F1]
  have hu1 : u1 = ((u1.toNat : Nat) : Int) := by omega
  refine (config_l2 l hl r v2 v3 v4 hr zs cs u1.toNat _ ?_).mono ?_
  · refine ⟨[], j1, zv, cv, _, ⟨?_, ?_, ?_, ?_, ?_, ?_, by omega⟩, ⟨hz.keep ?_, hc.keep ?_⟩, SlB.nil, by omega, ?_, by simp; omega, by simp⟩ <;> simp -implicitDefEqProofs only [go_sem, e2, e3, e4, h2, h4, h15]
    rw [← hu1]
  clear e2 e3 e4 h2 h4 h15 hz hc hi hi0 F1 c1 d1 hu1
  rintro e ⟨E, H⟩ ⟨rfl, ts, i, zv, cv, tv, ⟨e2, e3, e4, h2, h4, h15, hi0⟩, hzc, ht, hi, ht5, rgt⟩
  simp only at e2 e3 e4 h2 h4 h15 hzc ht
  obtain ⟨x1, j1, p1, q1, c1, d1, F1⟩ := Next_ex l i 3 hl (by omega) (by omega) (by omega)
  obtain ⟨x2, j2, p2, q2, c2, d2, F2⟩ := Next_ex l j1 3 hl (by omega) (by omega) (by omega)
  simp -implicitDefEqProofs only [go_sem, e3, e4, h4, h15, F1, F2]
  have hu1 : x2 = ((x2.toNat : Nat) : Int) := by omega
  refine (config_l3 l hl r v2 v3 v4 zs cs ts x2.toNat _ ?_).mono ?_
  · refine ⟨[⟨0, x1⟩], j2, zv, cv, tv, .ms 126 ((hg H 126).ver + 1) 0 1 1, ⟨?_, ?_, ?_, ?_, ?_, ?_, by omega⟩, ⟨hzc.z.keep ?_, hzc.c.keep ?_, ht.keep ?_⟩, ⟨by simp, 126, (hg H 126).ver + 1, .inl rfl, ?_, ?_⟩, by omega, ?_, by simp; omega, ?_, by simp⟩ <;> (try simp -implicitDefEqProofs only [go_sem, e2, e3, e4, h2, h4, h15])
    · rw [← hu1]
    · intro v hv
      simp at hv; subst hv
      constructor <;> simp only <;> omega
  clear e2 e3 e4 h2 h4 h15 hzc ht hi hi0 F1 F2 c1 d1 c2 d2 hu1
  rintro e ⟨E, H⟩ ⟨rfl, vs, i, zv, cv, tv, vv, ⟨e2, e3, e4, h2, h4, h15, hi0⟩, hzc, hv, hi, hv3, rgv, hvh⟩
  simp only at e2 e3 e4 h2 h4 h15 hzc hv
  obtain ⟨y1, j1, p1, q1, c1, d1, F1⟩ := Next_ex l i 2 hl (by omega) (by omega) (by omega)
  have w2 : IntKind.wrap .i64 (2 * y1) = 2 * y1 := w64 (by omega) (by omega)
  have w3 : IntKind.wrap .i64 (2 * y1 + 1) = 2 * y1 + 1 := w64 (by omega) (by omega)
  simp -implicitDefEqProofs only [go_sem, e3, e4, h4, h15, F1, w2, w3]
  have hu1 : 2 * y1 + 1 = (((2 * y1 + 1).toNat : Nat) : Int) := by omega
  refine (config_l4 l hl r v2 v3 v4 zs (by omega) hz6 cs ts vs [] (2 * y1 + 1).toNat (by omega) (2 * y1 + 1).toNat _ ?_).mono ?_
  · refine ⟨[], j1, zv, cv, tv, vv, _, .bad, ⟨?_, ?_, ?_, ?_, ?_, ?_, by omega⟩, ⟨hzc.z.keep ?_, hzc.c.keep ?_, hzc.t.keep ?_, hv.keep ?_ ?_⟩, SlB.nil, by omega, ?_, by simp, by simp⟩ <;> simp -implicitDefEqProofs only [go_sem, e2, e3, e4, h2, h4, h15]
    rw [← hu1]
  clear e2 e3 e4 h2 h4 h15 hzc hv hi hi0 F1 c1 d1 hu1
  rintro e ⟨E, H⟩ ⟨rfl, rs, i, zv, cv, tv, vv, rv, ov, ⟨e2, e3, e4, h2, h4, h15, hi0⟩, hzc, hrs, hi, hrl, rgr⟩
  simp only at e2 e3 e4 h2 h4 h15 hzc hrs
  obtain ⟨o1, j1, p3, q3, c1, d1, F1⟩ := Range_ex l i 1 4 hl (by omega) (by omega) (by omega) (by omega)
  simp -implicitDefEqProofs only [go_sem, e3, e4, h4, h15, F1]
  have hu1 : o1 = ((o1.toNat : Nat) : Int) := by omega
  refine (config_l5 l hl r v2 v3 v4 zs (by omega) hz6 cs ts vs rs o1.toNat (by omega) o1.toNat _ ?_).mono ?_
  · refine ⟨[], j1, zv, cv, tv, vv, rv, _, ⟨?_, ?_, ?_, ?_, ?_, ?_, by omega⟩, ⟨hzc.z.keep ?_, hzc.c.keep ?_, hzc.t.keep ?_, hzc.v.keep ?_ ?_, hrs.keep ?_⟩, SlB.nil, by omega, ?_, by simp, by simp⟩ <;> simp -implicitDefEqProofs only [go_sem, e2, e3, e4, h2, h4, h15]
    rw [← hu1]
  clear e2 e3 e4 h2 h4 h15 hzc hrs hi hi0 F1 c1 d1 hu1
  rintro e ⟨E, H⟩ ⟨rfl, os, i, zv, cv, tv, vv, rv, ov, ⟨e2, e3, e4, h2, h4, h15, hi0⟩, hzc, hos, hi, hol, rgo⟩
  simp only at e2 e3 e4 h2 h4 h15 hzc hos
  simp -implicitDefEqProofs only [go_sem, e2, e4, h2, h4, h15, hzc.z.one, hzc.c.one, hzc.t.one, hzc.v.one, hzc.r.one, hos.one]
  refine ⟨⟨r, zs, cs, ts, vs, rs, os, v2, v3, v4⟩, ?_, ?_⟩
  · exact ⟨hr.1, hr.2, hzr, hz6, rgz, hc0, hc7, rgc, ht5, rgt, hzc.v.1, hv3, rgv, hvh, by simp only; omega, rgr, by simp only; omega, by simp only; omega, rgo, a2, b2, a3, b3, a4, by simp only; omega⟩
  · have K1 : ∀ x, frzD (hs H 2 x) 5 zv = some (.sl (zs.map eI)) := fun x => (hzc.z.keep (by simp -implicitDefEqProofs only [go_sem, ])).frz (by decide) (closed_eI _) 4
    have K2 : ∀ x, frzD (hs H 2 x) 5 cv = some (.sl (cs.map eC)) := fun x => (hzc.c.keep (by simp -implicitDefEqProofs only [go_sem, ])).frz (by decide) (closed_eC _) 4
    have K3 : ∀ x, frzD (hs H 2 x) 5 tv = some (.sl (ts.map eT)) := fun x => (hzc.t.keep (by simp -implicitDefEqProofs only [go_sem, ])).frz (by decide) (closed_eT _) 4
    have K4 : ∀ x, frzD (hs H 2 x) 5 vv = some (.sl (vs.map eV)) := fun x => (hzc.v.keep (by simp -implicitDefEqProofs only [go_sem, ]) (by simp -implicitDefEqProofs only [go_sem, ])).frz 4
    have K5 : ∀ x, frzD (hs H 2 x) 5 rv = some (.sl (rs.map eI)) := fun x => (hzc.r.keep (by simp -implicitDefEqProofs only [go_sem, ])).frz (by decide) (closed_eI _) 4
    have K6 : ∀ x, frzD (hs H 2 x) 5 ov = some (.sl (os.map eI)) := fun x => (hos.keep (by simp -implicitDefEqProofs only [go_sem, ])).frz (by decide) (closed_eI _) 4
    simp -implicitDefEqProofs only [go_sem, K1, K2, K3, K4, K5, K6]
/-- Element i of a set. -/
def bit (s i : Int) : Bool := decide ((s / 2 ^ i.toNat) % 2 = 1)
theorem shr_div (s i : Int) (h0 : 0 ≤ i) (h1 : i ≤ 64) : s.fdiv (2 ^ (min i.toNat 64)) = s / 2 ^ i.toNat := by
  rw [show min i.toNat 64 = i.toNat by omega]
  rw [Int.fdiv_eq_ediv_of_nonneg _ (by exact Int.pow_nonneg (by decide))]
def regZ (c : Conf) (z : Int) : Int := if 0 ≤ z ∧ z < c.zones.length then c.zones.getD z.toNat 0 else -1
def zoneOf (c : Conf) (i : Int) : Int := if 0 ≤ i ∧ i < c.cells.length then (c.cells.getD i.toNat ⟨0, 0⟩).zone else -1
def regOf (c : Conf) (i : Int) : Int := regZ c (zoneOf c i)
/-- Lists are not too long for the machine. -/
structure Lens (k : Conf) : Prop where
  z : k.zones.length ≤ 1000
  c : k.cells.length ≤ 1000
  t : k.tens.length ≤ 1000
  v : k.vers.length ≤ 1000
  p : k.reps.length ≤ 1000
  o : k.obs.length ≤ 1000
theorem getD_at {α : Type} {l : List α} {i : Nat} {d : α} (h : i < l.length) : l[i]? = some (l.getD i d) := by
  rw [List.getElem?_eq_getElem h, List.getD_eq_getElem?_getD, List.getElem?_eq_getElem h]; rfl

theorem FV_tbetween (n lo hi : Int) : FV PP shF 66 [dI n, dI lo, dI hi] = some (dB (decide (lo ≤ n) && decide (n ≤ hi))) := by
  refine FV_B (H := []) ?_
  rw [F_fun PP66 rfl ⟨by simp [ir66], by simp⟩]
  by_cases h : lo ≤ n
  · simp -implicitDefEqProofs only [go_sem, ir66, h]
  · simp -implicitDefEqProofs only [go_sem, ir66, h]
theorem FV_region (c : Conf) (hc : Lens c) (z : Int) : FV PP shF 73 [.agg (eK c), dI z] = some (dI (regZ c z)) := by
  refine FV_ok (F_ok PP73 rfl ⟨by simp [ir73], by simp⟩ ?_)
  have hl := hc.z
  have w : IntKind.wrap .i64 ((c.zones.length : Int) - 1) = (c.zones.length : Int) - 1 := w64 (by omega) (by omega)
  have B := FV_tbetween z 0 ((c.zones.length : Int) - 1)
  unfold regZ
  by_cases h : 0 ≤ z ∧ z < c.zones.length
  · have e1 : (decide (0 ≤ z) && decide (z ≤ (c.zones.length : Int) - 1)) = true := by simp; omega
    rw [e1] at B
    have hg := getD_at (l := c.zones) (i := z.toNat) (d := 0) (by omega)
    simp -implicitDefEqProofs only [go_sem, ir73, eK, w, vpS B rfl, h, hg]
  · have e1 : (decide (0 ≤ z) && decide (z ≤ (c.zones.length : Int) - 1)) = false := by simp; omega
    rw [e1] at B
    simp -implicitDefEqProofs only [go_sem, ir73, eK, w, vpS B rfl, h]
theorem FV_ZoneOf (c : Conf) (hc : Lens c) (z : Int) : FV PP shF 39 [.agg (eK c), dI z] = some (dI (zoneOf c z)) := by
  refine FV_ok (F_ok PP39 rfl ⟨by simp [ir39], by simp⟩ ?_)
  have hl := hc.c
  have w : IntKind.wrap .i64 ((c.cells.length : Int) - 1) = (c.cells.length : Int) - 1 := w64 (by omega) (by omega)
  have B := FV_tbetween z 0 ((c.cells.length : Int) - 1)
  unfold zoneOf
  by_cases h : 0 ≤ z ∧ z < c.cells.length
  · have e1 : (decide (0 ≤ z) && decide (z ≤ (c.cells.length : Int) - 1)) = true := by simp; omega
    rw [e1] at B
    have hg := getD_at (l := c.cells) (i := z.toNat) (d := ⟨0, 0⟩) (by omega)
    simp -implicitDefEqProofs only [go_sem, ir39, eK, w, vpS B rfl, h, hg]
  · have e1 : (decide (0 ≤ z) && decide (z ≤ (c.cells.length : Int) - 1)) = false := by simp; omega
    rw [e1] at B
    simp -implicitDefEqProofs only [go_sem, ir39, eK, w, vpS B rfl, h]
theorem FV_RegionOf (c : Conf) (hc : Lens c) (z : Int) : FV PP shF 37 [.agg (eK c), dI z] = some (dI (regOf c z)) := by
  refine FV_ok (F_ok PP37 rfl ⟨by simp [ir37], by simp⟩ ?_)
  simp -implicitDefEqProofs only [go_sem, ir37, eK, vpS (FV_ZoneOf c hc z) rfl, vpS (FV_region c hc (zoneOf c z)) rfl]
  rfl
/-- The numbers below n for which p holds. -/
def sel (n : Nat) (p : Int → Bool) : List Int := ((List.range n).filter fun i : Nat => p (i : Int)).map fun i : Nat => (i : Int)
theorem sel_succ (n : Nat) (p : Int → Bool) : sel (n + 1) p = sel n p ++ (if p n = true then [(n : Int)] else []) := by
  unfold sel
  rw [List.range_succ, List.filter_append, List.map_append]
  congr 1
  by_cases h : p n = true <;> simp [h]
theorem sel_len (n : Nat) (p : Int → Bool) : (sel n p).length ≤ n := by
  unfold sel
  rw [List.length_map]
  exact Nat.le_trans (List.length_filter_le _ _) (by simp)
theorem mem_sel {n : Nat} {p : Int → Bool} {x : Int} : x ∈ sel n p ↔ 0 ≤ x ∧ x < n ∧ p x = true := by
  unfold sel
  simp only [List.mem_map, List.mem_filter, List.mem_range]
  constructor
  · rintro ⟨i, ⟨h1, h2⟩, rfl⟩; exact ⟨by omega, by omega, h2⟩
  · rintro ⟨h1, h2, h3⟩
    refine ⟨x.toNat, ⟨by omega, ?_⟩, by omega⟩
    rw [show ((x.toNat : Nat) : Int) = x by omega]; exact h3
theorem ConfOk.lens {c : Conf} (h : ConfOk c) : Lens c := by
  have h1 := h.z1
  have h2 := h.c1
  have h3 := h.t1
  have h4 := h.v1
  have h5 := h.ps
  have h6 := h.o1
  constructor <;> omega
/-- Whether a set has an element. -/
def has (s i : Int) : Bool := decide (0 ≤ i) && decide (i < 62) && bit s i
theorem tmod2 (a : Int) : (a.tmod 2 != 0) = decide (a % 2 = 1) := by
  rw [Bool.eq_iff_iff]
  simp only [bne_iff_ne, ne_eq, decide_eq_true_eq]
  rw [Int.tmod_eq_emod]
  split
  · omega
  · rename_i h
    have : (2 : Int).natAbs = 2 := rfl
    rw [this]
    omega
theorem wu64 {n : Int} (h1 : 0 ≤ n) (h2 : n ≤ 9223372036854775807) : IntKind.wrap .u64 n = n := by
  simp [IntKind.wrap, IntKind.min, IntKind.max, IntKind.signed, IntKind.bits]; omega
theorem FV_Has (s i : Int) : FV PP shF 56 [dI s, dI i] = some (dB (has s i)) := by
  refine FV_B (H := []) ?_
  rw [F_fun PP56 rfl ⟨by simp [ir56], by simp⟩]
  by_cases h : 0 ≤ i
  · by_cases h4 : i < 62
    · have h5 : ¬ i < 0 := by omega
      have h6 := shr_div s i h (by omega)
      simp -implicitDefEqProofs only [go_sem, ir56, h, h4, h5, h6, wu64 h (by omega), tmod2, has, bit]
    · simp -implicitDefEqProofs only [go_sem, ir56, h, h4, has]
  · simp -implicitDefEqProofs only [go_sem, ir56, h, has]
theorem FV_rZoneOf (c : Conf) (hc : Lens c) (z : Int) : FV PP shF 40 [.agg (eK c), dI z] = some (dI (zoneOf c z)) := by
  refine FV_ok (F_ok PP40 rfl ⟨by simp [ir40], by simp⟩ ?_)
  unfold zoneOf
  by_cases h0 : z < 0
  · have h : ¬ (0 ≤ z ∧ z < c.cells.length) := by omega
    simp -implicitDefEqProofs only [go_sem, ir40, eK, h, h0]
  · by_cases h1 : (c.cells.length : Int) ≤ z
    · have h : ¬ (0 ≤ z ∧ z < c.cells.length) := by omega
      simp -implicitDefEqProofs only [go_sem, ir40, eK, h, h0, h1]
    · have h : 0 ≤ z ∧ z < c.cells.length := by omega
      have hg := getD_at (l := c.cells) (i := z.toNat) (d := ⟨0, 0⟩) (by omega)
      simp -implicitDefEqProofs only [go_sem, ir40, eK, h, h0, h1, hg]
/-- Zones of cells exist. -/
theorem ConfOk.zoneOf {c : Conf} (h : ConfOk c) {i : Int} (h0 : 0 ≤ i) (h1 : i < c.cells.length) : 0 ≤ Cp.zoneOf c i ∧ Cp.zoneOf c i < c.zones.length := by
  unfold Cp.zoneOf
  rw [if_pos ⟨h0, h1⟩]
  have hg := getD_at (l := c.cells) (i := i.toNat) (d := ⟨0, 0⟩) (by omega)
  have := h.cs _ (List.mem_of_getElem? hg)
  omega
theorem ConfOk.regZ {c : Conf} (h : ConfOk c) {z : Int} (h0 : 0 ≤ z) (h1 : z < c.zones.length) : 0 ≤ Cp.regZ c z ∧ Cp.regZ c z < c.regions := by
  unfold Cp.regZ
  rw [if_pos ⟨h0, h1⟩]
  have hg := getD_at (l := c.zones) (i := z.toNat) (d := 0) (by omega)
  exact h.zs _ (List.mem_of_getElem? hg)
theorem ConfOk.regOf {c : Conf} (h : ConfOk c) {i : Int} (h0 : 0 ≤ i) (h1 : i < c.cells.length) : 0 ≤ Cp.regOf c i ∧ Cp.regOf c i < c.regions := by
  have := h.zoneOf h0 h1
  exact h.regZ this.1 this.2
theorem zoneOf_out {c : Conf} {i : Int} (h : ¬ (0 ≤ i ∧ i < c.cells.length)) : zoneOf c i = -1 := by unfold zoneOf; rw [if_neg h]
theorem regOf_out {c : Conf} {i : Int} (h : ¬ (0 ≤ i ∧ i < c.cells.length)) : regOf c i = -1 := by unfold regOf; rw [zoneOf_out h]; unfold regZ; rw [if_neg (by omega)]
theorem FV_rRegionOf (c : Conf) (hc : ConfOk c) (i : Int) : FV PP shF 41 [.agg (eK c), dI i] = some (dI (regOf c i)) := by
  refine FV_ok (F_ok PP41 rfl ⟨by simp [ir41], by simp⟩ ?_)
  by_cases h : 0 ≤ i ∧ i < c.cells.length
  · have hz := hc.zoneOf h.1 h.2
    have hz0 : ¬ zoneOf c i < 0 := by omega
    have hg := getD_at (l := c.zones) (i := (zoneOf c i).toNat) (d := 0) (by omega)
    have hr : regOf c i = c.zones.getD (zoneOf c i).toNat 0 := by unfold regOf regZ; rw [if_pos hz]
    simp -implicitDefEqProofs only [go_sem, ir41, eK, vpS (FV_rZoneOf c hc.lens i) rfl, hz0, hz, hg, hr]
  · have hz := zoneOf_out h
    have hr := regOf_out h
    have B := FV_rZoneOf c hc.lens i
    rw [hz] at B
    simp -implicitDefEqProofs only [go_sem, ir41, eK, vpS B rfl, hr]
/-- Whether a cell lies in an allowed region of a tenant. -/
def mayB (c : Conf) (t i : Int) : Bool := decide (0 ≤ t) && decide (t < c.tens.length) && has (c.tens.getD t.toNat ⟨0, 0, 0, 0, 0, 0, false⟩).allowed (regOf c i)
theorem FV_rMay (c : Conf) (hc : ConfOk c) (t i : Int) : FV PP shF 57 [.agg (eK c), dI t, dI i] = some (dB (mayB c t i)) := by
  refine FV_ok (F_ok PP57 rfl ⟨by simp [ir57], by simp⟩ ?_)
  unfold mayB
  by_cases h0 : 0 ≤ t
  · by_cases h1 : t < c.tens.length
    · have hg := getD_at (l := c.tens) (i := t.toNat) (d := ⟨0, 0, 0, 0, 0, 0, false⟩) (by omega)
      simp -implicitDefEqProofs only [go_sem, ir57, eK, h0, h1, hg, vpS (FV_rRegionOf c hc i) rfl, vpS (FV_Has (c.tens.getD t.toNat ⟨0, 0, 0, 0, 0, 0, false⟩).allowed (regOf c i)) rfl]
    · simp -implicitDefEqProofs only [go_sem, ir57, eK, h0, h1]
  · simp -implicitDefEqProofs only [go_sem, ir57, eK, h0]
def apartB (c : Conf) (a b : Int) : Bool := decide (0 ≤ regOf c a) && decide (0 ≤ regOf c b) && (regOf c a != regOf c b)
theorem FV_rApart (c : Conf) (hc : ConfOk c) (a b : Int) : FV PP shF 76 [.agg (eK c), dI a, dI b] = some (dB (apartB c a b)) := by
  refine FV_ok (F_ok PP76 rfl ⟨by simp [ir76], by simp⟩ ?_)
  unfold apartB
  by_cases h0 : 0 ≤ regOf c a
  · by_cases h1 : 0 ≤ regOf c b
    · simp -implicitDefEqProofs only [go_sem, ir76, eK, vpS (FV_rRegionOf c hc a) rfl, vpS (FV_rRegionOf c hc b) rfl, h0, h1]
    · simp -implicitDefEqProofs only [go_sem, ir76, eK, vpS (FV_rRegionOf c hc a) rfl, vpS (FV_rRegionOf c hc b) rfl, h0, h1]
  · simp -implicitDefEqProofs only [go_sem, ir76, eK, vpS (FV_rRegionOf c hc a) rfl, vpS (FV_rRegionOf c hc b) rfl, h0]
def P52 (c : Conf) (t : Int) (i : Int) : Bool := mayB c t i
def L52 (c : Conf) (t : Int) (k : Nat) (w : VSt) : Prop := ∃ ov : DV, gt .bad w.E 2 = .mp 2 1 0 0 ∧ hg w.H 2 = ⟨1, 0, true, [eK c]⟩ ∧ gt .bad w.E 1 = dI t ∧ gt .bad w.E 6 = dI (k : Nat) ∧ gt .bad w.E 5 = ov ∧ SlB w.H 21 1 ((sel k (P52 c t)).map eI) ov ∧ k ≤ c.cells.length
def Q52 (c : Conf) (t : Int) (e : Ex) (w : VSt) : Prop := e = .exit 0 ∧ ∃ ov : DV, gt .bad w.E 5 = ov ∧ SlB w.H 21 1 ((sel c.cells.length (P52 c t)).map eI) ov
theorem loop52 (c : Conf) (t : Int) (hc : ConfOk c) : ∀ k w, L52 c t k w → Ok (R PP shF 0 23 (.loop ir52_l0) w) (Q52 c t) := by
  refine Ok_up c.cells.length (L52 c t) fun k w hI => ?_
  obtain ⟨E, H⟩ := w
  obtain ⟨ov, e2, h2, x1, e6, e5, ho, hk⟩ := hI
  simp only at e2 h2  x1 e6 e5 ho
  have hn := hc.lens.c
  have w1 : IntKind.wrap .i64 ((k : Int) + 1) = ((k + 1 : Nat) : Int) := by rw [w64 (by omega) (by omega)]; rfl
  by_cases hlt : k < c.cells.length
  · have d1 : decide ((k : Int) < (c.cells.length : Int)) = true := by simp; omega
    have q1 : (k : Int) < (c.cells.length : Int) := by omega
    have q0 : (0 : Int) ≤ (k : Int) := by omega
    have B1 := FV_rMay c hc t k
    have hsl := sel_len k (P52 c t)
    have c1 : ¬ (sel k (P52 c t)).length + 1 ≤ (sel k (P52 c t)).length := by omega
    have c2 : ((sel k (P52 c t)).length + 1) * 8 ≤ 140737488355328 ∧ (sel k (P52 c t)).length ≤ 9223372036854775806 := by omega
    have ht : List.take (sel k (P52 c t)).length ((sel k (P52 c t)).map eI) = (sel k (P52 c t)).map eI := List.take_of_length_le (by simp)
    cases hp : P52 c t k with
    | true =>
      have hs : sel (k + 1) (P52 c t) = sel k (P52 c t) ++ [(k : Int)] := by rw [sel_succ, if_pos hp]
      have hq : mayB c t k = true := hp
      rw [hq] at B1
      rcases ho with ⟨hz, rfl⟩ | ⟨hz, ver, rfl, hb⟩
      · simp -implicitDefEqProofs only [go_sem, ir52_l0, eK, e2, h2, x1, e6, e5, d1, w1, q0, q1, vpS B1 rfl]
        refine .next hlt ⟨.ms 21 ((hg H 21).ver + 1) 0 1 1, ?_, ?_, ?_, ?_, ?_, SlB.mk ?_ ?_ ?_, by omega⟩ <;> simp -implicitDefEqProofs only [go_sem, eK, e2, h2, x1, e6, w1, hs, List.map_append, hz]
      · simp -implicitDefEqProofs only [go_sem, ir52_l0, eK, e2, h2, x1, e6, e5, d1, w1, q0, q1, hb, c1, c2, ht, vpS B1 rfl]
        refine .next hlt ⟨.ms 21 (ver + 1 + 1) 0 ((sel k (P52 c t)).length + 1) ((sel k (P52 c t)).length + 1), ?_, ?_, ?_, ?_, ?_, SlB.mk ?_ ?_ ?_, by omega⟩ <;> simp -implicitDefEqProofs only [go_sem, eK, e2, h2, x1, e6, w1, hs, List.map_append, List.length_append]
    | false =>
      have hs : sel (k + 1) (P52 c t) = sel k (P52 c t) := by rw [sel_succ, if_neg (by simp [hp])]; simp
      have hq : mayB c t k = false := hp
      rw [hq] at B1
      simp -implicitDefEqProofs only [go_sem, ir52_l0, eK, e2, h2, x1, e6, e5, d1, w1, q0, q1, vpS B1 rfl]
      refine .next hlt ⟨ov, ?_, ?_, ?_, ?_, ?_, ?_, by omega⟩ <;> (try simp -implicitDefEqProofs only [go_sem, eK, e2, h2, x1, e6, e5, w1])
      rw [hs]; exact ho
  · have : k = c.cells.length := by omega
    subst this
    have d1 : decide ((c.cells.length : Int) < (c.cells.length : Int)) = false := by simp
    simp -implicitDefEqProofs only [go_sem, ir52_l0, eK, e2, h2, e6, d1]
    exact .exit ⟨rfl, ov, by simp -implicitDefEqProofs only [go_sem, e5], ho⟩
theorem FVF_52 (c : Conf) (t : Int) (hc : ConfOk c) : FVF PP shF 52 [.agg (eK c), dI t] (dL (sel c.cells.length (P52 c t))) := by
  refine FVF_ok (F_ok PP52 rfl ⟨by simp [ir52], by simp⟩ ?_)
  simp -implicitDefEqProofs only [go_sem, ir52, eK]
  refine (loop52 c t hc 0 _ ?_).mono ?_
  · refine ⟨_, ?_, ?_, ?_, ?_, ?_, SlB.nil, by omega⟩ <;> simp -implicitDefEqProofs only [go_sem, eK]
  rintro e ⟨E, H⟩ ⟨rfl, ov, e5, ho⟩
  simp only at e5 ho
  simp -implicitDefEqProofs only [go_sem, e5, ho.frz (by decide) (closed_eI _), ho.fresh (by decide) (lits_eI _)]
def P53 (c : Conf) (t : Int) (h : Int) (i : Int) : Bool := mayB c t i && apartB c h i
def L53 (c : Conf) (t : Int) (h : Int) (k : Nat) (w : VSt) : Prop := ∃ ov : DV, gt .bad w.E 3 = .mp 3 1 0 0 ∧ hg w.H 3 = ⟨1, 0, true, [eK c]⟩ ∧ gt .bad w.E 1 = dI t ∧ gt .bad w.E 2 = dI h ∧ gt .bad w.E 8 = dI (k : Nat) ∧ gt .bad w.E 7 = ov ∧ SlB w.H 29 1 ((sel k (P53 c t h)).map eI) ov ∧ k ≤ c.cells.length
def Q53 (c : Conf) (t : Int) (h : Int) (e : Ex) (w : VSt) : Prop := e = .exit 0 ∧ ∃ ov : DV, gt .bad w.E 7 = ov ∧ SlB w.H 29 1 ((sel c.cells.length (P53 c t h)).map eI) ov
theorem loop53 (c : Conf) (t : Int) (h : Int) (hc : ConfOk c) : ∀ k w, L53 c t h k w → Ok (R PP shF 0 31 (.loop ir53_l0) w) (Q53 c t h) := by
  refine Ok_up c.cells.length (L53 c t h) fun k w hI => ?_
  obtain ⟨E, H⟩ := w
  obtain ⟨ov, e2, h2, x1, x2, e6, e5, ho, hk⟩ := hI
  simp only at e2 h2  x1  x2 e6 e5 ho
  have hn := hc.lens.c
  have w1 : IntKind.wrap .i64 ((k : Int) + 1) = ((k + 1 : Nat) : Int) := by rw [w64 (by omega) (by omega)]; rfl
  by_cases hlt : k < c.cells.length
  · have d1 : decide ((k : Int) < (c.cells.length : Int)) = true := by simp; omega
    have q1 : (k : Int) < (c.cells.length : Int) := by omega
    have q0 : (0 : Int) ≤ (k : Int) := by omega
    have B1 := FV_rMay c hc t k
    have B2 := FV_rApart c hc h k
    have hsl := sel_len k (P53 c t h)
    have c1 : ¬ (sel k (P53 c t h)).length + 1 ≤ (sel k (P53 c t h)).length := by omega
    have c2 : ((sel k (P53 c t h)).length + 1) * 8 ≤ 140737488355328 ∧ (sel k (P53 c t h)).length ≤ 9223372036854775806 := by omega
    have ht : List.take (sel k (P53 c t h)).length ((sel k (P53 c t h)).map eI) = (sel k (P53 c t h)).map eI := List.take_of_length_le (by simp)
    cases hp : P53 c t h k with
    | true =>
      have hs : sel (k + 1) (P53 c t h) = sel k (P53 c t h) ++ [(k : Int)] := by rw [sel_succ, if_pos hp]
      have hq : mayB c t k = true ∧ apartB c h k = true := by simpa [P53] using hp
      rw [hq.1] at B1
      rw [hq.2] at B2
      rcases ho with ⟨hz, rfl⟩ | ⟨hz, ver, rfl, hb⟩
      · simp -implicitDefEqProofs only [go_sem, ir53_l0, eK, e2, h2, x1, x2, e6, e5, d1, w1, q0, q1, vpS B1 rfl, vpS B2 rfl]
        refine .next hlt ⟨.ms 29 ((hg H 29).ver + 1) 0 1 1, ?_, ?_, ?_, ?_, ?_, ?_, SlB.mk ?_ ?_ ?_, by omega⟩ <;> simp -implicitDefEqProofs only [go_sem, eK, e2, h2, x1, x2, e6, w1, hs, List.map_append, hz]
      · simp -implicitDefEqProofs only [go_sem, ir53_l0, eK, e2, h2, x1, x2, e6, e5, d1, w1, q0, q1, hb, c1, c2, ht, vpS B1 rfl, vpS B2 rfl]
        refine .next hlt ⟨.ms 29 (ver + 1 + 1) 0 ((sel k (P53 c t h)).length + 1) ((sel k (P53 c t h)).length + 1), ?_, ?_, ?_, ?_, ?_, ?_, SlB.mk ?_ ?_ ?_, by omega⟩ <;> simp -implicitDefEqProofs only [go_sem, eK, e2, h2, x1, x2, e6, w1, hs, List.map_append, List.length_append]
    | false =>
      have hs : sel (k + 1) (P53 c t h) = sel k (P53 c t h) := by rw [sel_succ, if_neg (by simp [hp])]; simp
      cases hm : mayB c t k with
      | true =>
        have hq : apartB c h k = false := by simpa [P53, hm] using hp
        rw [hm] at B1
        rw [hq] at B2
        simp -implicitDefEqProofs only [go_sem, ir53_l0, eK, e2, h2, x1, x2, e6, e5, d1, w1, q0, q1, vpS B1 rfl, vpS B2 rfl]
        refine .next hlt ⟨ov, ?_, ?_, ?_, ?_, ?_, ?_, ?_, by omega⟩ <;> (try simp -implicitDefEqProofs only [go_sem, eK, e2, h2, x1, x2, e6, e5, w1])
        rw [hs]; exact ho
      | false =>
        rw [hm] at B1
        simp -implicitDefEqProofs only [go_sem, ir53_l0, eK, e2, h2, x1, x2, e6, e5, d1, w1, q0, q1, vpS B1 rfl, vpS B2 rfl]
        refine .next hlt ⟨ov, ?_, ?_, ?_, ?_, ?_, ?_, ?_, by omega⟩ <;> (try simp -implicitDefEqProofs only [go_sem, eK, e2, h2, x1, x2, e6, e5, w1])
        rw [hs]; exact ho
  · have : k = c.cells.length := by omega
    subst this
    have d1 : decide ((c.cells.length : Int) < (c.cells.length : Int)) = false := by simp
    simp -implicitDefEqProofs only [go_sem, ir53_l0, eK, e2, h2, e6, d1]
    exact .exit ⟨rfl, ov, by simp -implicitDefEqProofs only [go_sem, e5], ho⟩
theorem FVF_53 (c : Conf) (t : Int) (h : Int) (hc : ConfOk c) : FVF PP shF 53 [.agg (eK c), dI t, dI h] (dL (sel c.cells.length (P53 c t h))) := by
  refine FVF_ok (F_ok PP53 rfl ⟨by simp [ir53], by simp⟩ ?_)
  simp -implicitDefEqProofs only [go_sem, ir53, eK]
  refine (loop53 c t h hc 0 _ ?_).mono ?_
  · refine ⟨_, ?_, ?_, ?_, ?_, ?_, ?_, SlB.nil, by omega⟩ <;> simp -implicitDefEqProofs only [go_sem, eK]
  rintro e ⟨E, H⟩ ⟨rfl, ov, e5, ho⟩
  simp only at e5 ho
  simp -implicitDefEqProofs only [go_sem, e5, ho.frz (by decide) (closed_eI _), ho.fresh (by decide) (lits_eI _)]
theorem cell_ex (L : List Int) (i : Nat) (c : Conf) (hc : ConfOk c) (hL : I64s L) (hi : i < 100000000) :
    ∃ (v : Int) (i' : Nat), -1 ≤ v ∧ v < c.cells.length ∧ i ≤ i' ∧ i' ≤ i + 2 ∧ ∀ (H : VHeap) (b ver base : Nat), hg H b = tapeB ver L i → H.length ≤ base →
      F PP shF 49 [.mp b ver 0 0, .agg (eK c)] H base = some (dI v, hs (hs H (base + 3) ⟨1, 0, true, [eK c]⟩) b (tapeB ver L i')) := by
  obtain ⟨y, i1, hy1, hy2, hF⟩ := Yes_ex L i 9 hL (by omega) (by omega) (by omega)
  have hcl : 1 ≤ c.cells.length ∧ c.cells.length ≤ 7 := by have := hc.c0; have := hc.z0; have := hc.r0; have := hc.c1; omega
  have key : ∀ (H : VHeap) (b ver base : Nat), hg H b = tapeB ver L i → H.length ≤ base → b < base ∧ (hg H (base + 3)).ver = 0 ∧ base + 3 ≠ b := by
    intro H b ver base hb hbase
    have h1 := hg_lt (H := H) (b := b) (by rw [hb])
    refine ⟨by omega, by rw [hg_ge H (by omega)], by omega⟩
  cases y with
  | true =>
    refine ⟨-1, i1, by omega, by omega, by omega, by omega, fun H b ver base hb hbase => ?_⟩
    obtain ⟨k1, k2, k3⟩ := key H b ver base hb hbase
    rw [F_fun PP49 rfl ⟨by simp [ir49], by simpa using hbase⟩]
    simp -implicitDefEqProofs only [go_sem, ir49, eK, hb, k2, k3, hF]
  | false =>
    obtain ⟨v, i2, v1, v2, v3, v4, hG⟩ := Next_ex L i1 c.cells.length hL (by omega) (by omega) (by omega)
    refine ⟨v, i2, by omega, by omega, by omega, by omega, fun H b ver base hb hbase => ?_⟩
    obtain ⟨k1, k2, k3⟩ := key H b ver base hb hbase
    have k4 : ¬ b = base + 3 := by omega
    rw [F_fun PP49 rfl ⟨by simp [ir49], by simpa using hbase⟩]
    simp -implicitDefEqProofs only [go_sem, ir49, eK, hb, k2, k3, k4, hF, hG]
    rw [hs_hs]
theorem pick_ex (L : List Int) (i : Nat) (l : List Int) (hl : l.length ≤ 1000) (hL : I64s L) (hi : i < 100000000) :
    ∃ (v : Int) (i' : Nat), (v = -1 ∨ v ∈ l) ∧ i ≤ i' ∧ i' ≤ i + 1 ∧ ∀ (H : VHeap) (b ver base : Nat), hg H b = tapeB ver L i → H.length ≤ base →
      F PP shF 51 [.mp b ver 0 0, dL l] H base = some (dI v, hs H b (tapeB ver L i')) := by
  by_cases h0 : l.length = 0
  · refine ⟨-1, i, .inl rfl, by omega, by omega, fun H b ver base hb hbase => ?_⟩
    have hself : hs H b (tapeB ver L i) = H := by rw [← hb]; exact hs_self (hg_lt (by rw [hb]))
    rw [F_fun PP51 rfl ⟨by simp [ir51], by simpa using hbase⟩, hself]
    have d1 : ((l.length : Int) == 0) = true := by simp; exact List.eq_nil_of_length_eq_zero h0
    simp -implicitDefEqProofs only [go_sem, ir51, d1]
  · obtain ⟨v, i2, v1, v2, v3, v4, hG⟩ := Next_ex L i l.length hL (by omega) (by omega) (by omega)
    have hg1 := getD_at (l := l) (i := v.toNat) (d := 0) (by omega)
    refine ⟨l.getD v.toNat 0, i2, .inr (List.mem_of_getElem? hg1), v3, v4, fun H b ver base hb hbase => ?_⟩
    rw [F_fun PP51 rfl ⟨by simp [ir51], by simpa using hbase⟩]
    have d1 : ((l.length : Int) == 0) = false := by simp; intro h; rw [h] at h0; simp at h0
    simp -implicitDefEqProofs only [go_sem, ir51, d1, hb, hG, v1, v2, hg1]
/-- A place out of a tape. -/
structure PlcOk (c : Conf) (p : Plc) : Prop where
  h0 : -1 ≤ p.home
  h1 : p.home < c.cells.length
  s0 : -1 ≤ p.sby
  s1 : p.sby < c.cells.length
def L14 (L : List Int) (c : Conf) (k : Nat) (w : VSt) : Prop := ∃ (ps : List Plc) (i : Nat) (ov : DV), gt .bad w.E 3 = .mp 3 1 0 0 ∧ hg w.H 3 = ⟨1, 0, true, [eK c]⟩ ∧ gt .bad w.E 5 = .mp 10 1 0 0 ∧ hg w.H 10 = tapeB 1 L i ∧
  gt .bad w.E 6 = ov ∧ SlB w.H 45 2 (ps.map eP) ov ∧ gt .bad w.E 7 = dI (k : Nat) ∧ ps.length = k ∧ k ≤ c.tens.length ∧ i ≤ 10 * k ∧ ∀ p, p ∈ ps → PlcOk c p
def Q14 (c : Conf) (e : Ex) (w : VSt) : Prop := e = .exit 0 ∧ ∃ (ps : List Plc) (ov : DV), gt .bad w.E 6 = ov ∧ SlB w.H 45 2 (ps.map eP) ov ∧ ps.length = c.tens.length ∧ ∀ p, p ∈ ps → PlcOk c p
theorem places_l0 (L : List Int) (hL : I64s L) (c : Conf) (hc : ConfOk c) : ∀ k w, L14 L c k w → Ok (R PP shF 0 47 (.loop ir14_l0) w) (Q14 c) := by
  refine Ok_up c.tens.length (L14 L c) fun k w hI => ?_
  obtain ⟨E, H⟩ := w
  obtain ⟨ps, i, ov, e3, h3, e5, h10, e6, ho, e7, len, hk, hi, rg⟩ := hI
  simp only at e3 h3 e5 h10 e6 ho e7
  have ht5 := hc.t1
  have w1 : IntKind.wrap .i64 ((k : Int) + 1) = ((k + 1 : Nat) : Int) := by rw [w64 (by omega) (by omega)]; rfl
  by_cases hlt : k < c.tens.length
  · have d1 : decide ((k : Int) < (c.tens.length : Int)) = true := by simp; omega
    obtain ⟨a, i1, a1, a2, a3, a4, F1⟩ := cell_ex L i c hc hL (by omega)
    obtain ⟨b, i2, b1, b2, b3, b4, F2⟩ := cell_ex L i1 c hc hL (by omega)
    obtain ⟨n, i3, n1, n2, n3, n4, F3⟩ := Next_ex L i2 3 hL (by omega) (by omega) (by omega)
    have hcl := hc.lens.c
    have H1 := FVF_52 c (k : Nat) hc
    obtain ⟨u, i4, u1, u2, u3, F4⟩ := pick_ex L i3 (sel c.cells.length (P52 c (k : Nat))) (Nat.le_trans (sel_len _ _) hcl) hL (by omega)
    have H2 := FVF_53 c (k : Nat) u hc
    obtain ⟨x, i5, x1, x2, x3, F5⟩ := pick_ex L i4 (sel c.cells.length (P53 c (k : Nat) u)) (Nat.le_trans (sel_len _ _) hcl) hL (by omega)
    have c1 : ¬ ps.length + 1 ≤ ps.length := by omega
    have c2 : (ps.length + 1) * 16 ≤ 140737488355328 ∧ ps.length ≤ 9223372036854775806 := by omega
    have hts : List.take ps.length (ps.map eP) = ps.map eP := List.take_of_length_le (by simp)
    have hm : ∀ q, PlcOk c q → ∀ p, p ∈ ps ++ [q] → PlcOk c p := by
      intro q hq p hp
      rcases List.mem_append.1 hp with hp | hp
      · exact rg p hp
      · simp at hp; subst hp; exact hq
    have hab : PlcOk c ⟨a, b⟩ := ⟨a1, a2, b1, b2⟩
    have hux : PlcOk c ⟨u, x⟩ := by
      have q1 : -1 ≤ u ∧ u < c.cells.length := by
        rcases u1 with rfl | h
        · omega
        · have := mem_sel.1 h; omega
      have q2 : -1 ≤ x ∧ x < c.cells.length := by
        rcases x1 with rfl | h
        · omega
        · have := mem_sel.1 h; omega
      exact ⟨q1.1, q1.2, q2.1, q2.2⟩
    by_cases hn : 0 < n
    · have d2 : decide (0 < n) = true := by simpa using hn
      rcases ho with ⟨hz, rfl⟩ | ⟨hz, ver, rfl, hb⟩
      · simp -implicitDefEqProofs only [go_sem, ir14_l0, eK, e3, h3, e5, h10, e6, e7, d1, w1, F1, F2, F3, d2, vpF H1 rfl, F4, vpF H2 rfl, F5]
        refine .next hlt ⟨ps ++ [⟨u, x⟩], i5, .ms 45 ((hg H 45).ver + 1) 0 1 1, ?_, ?_, ?_, ?_, ?_, SlB.mk ?_ ?_ ?_, ?_, by simp; omega, by omega, by omega, hm _ hux⟩ <;> simp -implicitDefEqProofs only [go_sem, eK, e3, h3, e5, h10, e6, e7, w1, List.map_append, hz]
      · simp -implicitDefEqProofs only [go_sem, ir14_l0, eK, e3, h3, e5, h10, e6, e7, d1, w1, F1, F2, F3, d2, vpF H1 rfl, F4, vpF H2 rfl, F5, hb, c1, c2, hts]
        refine .next hlt ⟨ps ++ [⟨u, x⟩], i5, .ms 45 (ver + 1 + 1) 0 (ps.length + 1) (ps.length + 1), ?_, ?_, ?_, ?_, ?_, SlB.mk ?_ ?_ ?_, ?_, by simp; omega, by omega, by omega, hm _ hux⟩ <;> simp -implicitDefEqProofs only [go_sem, eK, e3, h3, e5, h10, e6, e7, w1, List.map_append, List.length_append]
    · have d2 : decide (0 < n) = false := by simpa using hn
      rcases ho with ⟨hz, rfl⟩ | ⟨hz, ver, rfl, hb⟩
      · simp -implicitDefEqProofs only [go_sem, ir14_l0, eK, e3, h3, e5, h10, e6, e7, d1, w1, F1, F2, F3, d2]
        refine .next hlt ⟨ps ++ [⟨a, b⟩], i3, .ms 45 ((hg H 45).ver + 1) 0 1 1, ?_, ?_, ?_, ?_, ?_, SlB.mk ?_ ?_ ?_, ?_, by simp; omega, by omega, by omega, hm _ hab⟩ <;> simp -implicitDefEqProofs only [go_sem, eK, e3, h3, e5, h10, e6, e7, w1, List.map_append, hz]
      · simp -implicitDefEqProofs only [go_sem, ir14_l0, eK, e3, h3, e5, h10, e6, e7, d1, w1, F1, F2, F3, d2, hb, c1, c2, hts]
        refine .next hlt ⟨ps ++ [⟨a, b⟩], i3, .ms 45 (ver + 1 + 1) 0 (ps.length + 1) (ps.length + 1), ?_, ?_, ?_, ?_, ?_, SlB.mk ?_ ?_ ?_, ?_, by simp; omega, by omega, by omega, hm _ hab⟩ <;> simp -implicitDefEqProofs only [go_sem, eK, e3, h3, e5, h10, e6, e7, w1, List.map_append, List.length_append]
  · have : k = c.tens.length := by omega
    subst this
    have d1 : decide ((c.tens.length : Int) < (c.tens.length : Int)) = false := by simp
    simp -implicitDefEqProofs only [go_sem, ir14_l0, eK, e3, h3, e7, d1]
    exact .exit ⟨rfl, ps, ov, by simp -implicitDefEqProofs only [go_sem, e6], ho, len, rg⟩
theorem closed_eP (l : List Plc) : (l.map eP).all closedL = true := by simp [List.all_eq_true, closedL, closedD]
theorem lits_eP (l : List Plc) : (l.map eP).all (fun el => el.all lit1) = true := by simp [List.all_eq_true, lit1]
theorem FVF_Places (L : List Int) (hL : I64s L) (c : Conf) (hc : ConfOk c) : ∃ ps : List Plc, ps.length = c.tens.length ∧ (∀ p, p ∈ ps → PlcOk c p) ∧ FVF PP shF 14 [dL L, .agg (eK c)] (.sl (ps.map eP)) := by
  suffices hs : OkF (F PP shF 14 [dL L, .agg (eK c)] [] 0) (fun e H => ∃ ps : List Plc, ps.length = c.tens.length ∧ (∀ p, p ∈ ps → PlcOk c p) ∧ frzD H 6 e = some (.sl (ps.map eP)) ∧ freshD H 6 e = true) by
    obtain ⟨e, H, h1, ps, h2, h3, h4, h5⟩ := hs
    exact ⟨ps, h2, h3, e, H, h1, h4, h5⟩
  refine F_ok PP14 rfl ⟨by simp [ir14], by simp⟩ ?_
  simp -implicitDefEqProofs only [go_sem, ir14, eK, vp_New]
  refine (places_l0 L hL c hc 0 _ ?_).mono ?_
  · refine ⟨[], 0, _, ?_, ?_, ?_, ?_, ?_, SlB.nil, ?_, rfl, by omega, by omega, by simp⟩ <;> simp -implicitDefEqProofs only [go_sem, eK]
  rintro e ⟨E, H⟩ ⟨rfl, ps, ov, e6, ho, len, rg⟩
  simp only at e6 ho
  simp -implicitDefEqProofs only [go_sem, e6]
  exact ⟨ps, len, rg, ho.frz (by decide) (closed_eP _) 5, ho.fresh (by decide) (lits_eP _) 4⟩
def ten (c : Conf) (t : Int) : Ten := c.tens.getD t.toNat ⟨0, 0, 0, 0, 0, 0, false⟩
theorem FV_between (n lo hi : Int) : FV PP shF 77 [dI n, dI lo, dI hi] = some (dB (decide (lo ≤ n) && decide (n ≤ hi))) := by
  refine FV_ok (F_ok PP77 rfl ⟨by simp [ir77], by simp⟩ ?_)
  by_cases h : lo ≤ n
  · simp -implicitDefEqProofs only [go_sem, ir77, h]
  · simp -implicitDefEqProofs only [go_sem, ir77, h]
def plc (ps : List Plc) (k : Nat) : Plc := ps.getD k ⟨0, 0⟩
def addAt (l : List Int) (i x : Int) : List Int := if 0 ≤ i ∧ i < l.length then l.set i.toNat (l.getD i.toNat 0 + x) else l
def booked (c : Conf) (ps : List Plc) : Nat → List Int
  | 0 => List.replicate c.cells.length 0
  | k + 1 => addAt (addAt (booked c ps k) (plc ps k).home (ten c k).load) (plc ps k).sby (ten c k).shadow
theorem addAt_len (l : List Int) (i x : Int) : (addAt l i x).length = l.length := by unfold addAt; split <;> simp
theorem booked_len (c : Conf) (ps : List Plc) : ∀ k, (booked c ps k).length = c.cells.length
  | 0 => by simp [booked]
  | k + 1 => by simp [booked, addAt_len, booked_len c ps k]
theorem addAt_bd {l : List Int} {i x B X : Int} (h : ∀ j : Nat, 0 ≤ l.getD j 0 ∧ l.getD j 0 ≤ B) (hx : 0 ≤ x ∧ x ≤ X) : ∀ j : Nat, 0 ≤ (addAt l i x).getD j 0 ∧ (addAt l i x).getD j 0 ≤ B + X := by
  intro j
  have hj := h j
  unfold addAt
  split
  · rename_i hi
    by_cases hji : i.toNat = j
    · subst hji
      have hlt : i.toNat < l.length := by omega
      have : (l.set i.toNat (l.getD i.toNat 0 + x)).getD i.toNat 0 = l.getD i.toNat 0 + x := by
        rw [List.getD_eq_getElem?_getD, List.getElem?_set_self hlt]; rfl
      rw [this]; omega
    · have : (l.set i.toNat (l.getD i.toNat 0 + x)).getD j 0 = l.getD j 0 := by
        rw [List.getD_eq_getElem?_getD, List.getElem?_set_ne hji, ← List.getD_eq_getElem?_getD]
      rw [this]; omega
  · omega
theorem ten_ok {c : Conf} (hc : ConfOk c) {k : Nat} (hk : k < c.tens.length) : TenOk c.regions (ten c k) := by
  have hg := getD_at (l := c.tens) (i := k) (d := ⟨0, 0, 0, 0, 0, 0, false⟩) hk
  exact hc.ts _ (List.mem_of_getElem? hg)
theorem booked_bd {c : Conf} (hc : ConfOk c) (ps : List Plc) : ∀ k : Nat, k ≤ c.tens.length → ∀ j : Nat, 0 ≤ (booked c ps k).getD j 0 ∧ (booked c ps k).getD j 0 ≤ 24 * k
  | 0, _, j => by
    have : (List.replicate c.cells.length (0 : Int)).getD j 0 = 0 := by
      rw [List.getD_eq_getElem?_getD, List.getElem?_replicate]; split <;> rfl
    simp only [booked, this]; omega
  | k + 1, hk, j => by
    have h1 := booked_bd hc ps k (by omega)
    have ht := ten_ok hc (k := k) (by omega)
    have h2 := addAt_bd (i := (plc ps k).home) (x := (ten c k).load) (X := 12) h1 ⟨by have := ht.l0; omega, ht.l1⟩
    have h3 := addAt_bd (i := (plc ps k).sby) (x := (ten c k).shadow) (X := 12) h2 ⟨ht.s0, by have := ht.s1; have := ht.l1; omega⟩ j
    simp only [booked]
    push_cast
    omega
theorem addAt_def (l : List Int) (i x : Int) : (0 ≤ i ∧ i < l.length → (l.map eI).set i.toNat [dI (l.getD i.toNat 0 + x)] = (addAt l i x).map eI) ∧ (¬ (0 ≤ i ∧ i < l.length) → addAt l i x = l) := by
  unfold addAt
  constructor
  · intro h; rw [if_pos h, List.map_set]
  · intro h; rw [if_neg h]
theorem FV_cell (p : Prob) (n : Int) : FV PP shF 59 [.agg (eQ p), dI n] = some (dB (decide (0 ≤ n) && decide (n < p.conf.cells.length))) := by
  refine FV_ok (F_ok PP59 rfl ⟨by simp [ir59], by simp⟩ ?_)
  by_cases h : 0 ≤ n
  · simp -implicitDefEqProofs only [go_sem, ir59, eQ, h]
  · simp -implicitDefEqProofs only [go_sem, ir59, eQ, h]
def L25 (p : Prob) (ps : List Plc) (N : Nat) (k : Nat) (w : VSt) : Prop := ∃ ver : Nat, gt .bad w.E 2 = .mp 2 1 0 0 ∧ hg w.H 2 = ⟨1, 0, true, [eQ p]⟩ ∧ gt .bad w.E 5 = .ms 13 ver 0 p.conf.cells.length p.conf.cells.length ∧ hg w.H 13 = ⟨ver, 1, true, (booked p.conf ps k).map eI⟩ ∧
  gt .bad w.E 22 = .sl ((ps.take N).map eP) ∧ gt .bad w.E 23 = dI (N : Nat) ∧ gt .bad w.E 24 = dI (k : Nat) ∧ k ≤ N
def Q25 (p : Prob) (ps : List Plc) (N : Nat) (e : Ex) (w : VSt) : Prop := e = .exit 0 ∧ ∃ ver : Nat, gt .bad w.E 5 = .ms 13 ver 0 p.conf.cells.length p.conf.cells.length ∧ hg w.H 13 = ⟨ver, 1, true, (booked p.conf ps N).map eI⟩
theorem booked_l0 (p : Prob) (hc : ConfOk p.conf) (ps : List Plc) (N : Nat) (hN : N ≤ ps.length) (hN2 : N ≤ p.conf.tens.length) : ∀ k w, L25 p ps N k w → Ok (R PP shF 0 63 (.loop ir25_l0) w) (Q25 p ps N) := by
  refine Ok_up N (L25 p ps N) fun k w hI => ?_
  obtain ⟨E, H⟩ := w
  obtain ⟨ver, e2, h2, e5, h5, e22, e23, e24, hk⟩ := hI
  simp only at e2 h2 e5 h5 e22 e23 e24
  have hn := hc.lens.c
  have hn7 := hc.c1
  have ht5 := hc.t1
  have w1 : IntKind.wrap .i64 ((k : Int) + 1) = ((k + 1 : Nat) : Int) := by rw [w64 (by omega) (by omega)]; rfl
  by_cases hlt : k < N
  · have d1 : decide ((k : Int) < (N : Int)) = true := by simp; omega
    have q1 : (k : Int) < ((min N ps.length : Nat) : Int) := by omega
    have q1b : (k : Int) < (N : Int) ∧ (k : Int) < (ps.length : Int) := by omega
    have q0 : (0 : Int) ≤ (k : Int) := by omega
    have g1 := getD_at (l := ps) (i := k) (d := ⟨0, 0⟩) (by omega)
    have g2 := getD_at (l := p.conf.tens) (i := k) (d := ⟨0, 0, 0, 0, 0, 0, false⟩) (by omega)
    have q2 : (k : Int) < (p.conf.tens.length : Int) := by omega
    have B1 := FV_cell p (plc ps k).home
    have B2 := FV_cell p (plc ps k).sby
    have ht := ten_ok hc (k := k) (by omega)
    have tk : (List.take N ps)[k]? = some (plc ps k) := by rw [List.getElem?_take, if_pos hlt]; exact g1
    have tl : (k : Int) < ((List.take N ps).length : Int) := by rw [List.length_take]; omega
    have D1 := addAt_def (booked p.conf ps k) (plc ps k).home (ten p.conf k).load
    have D2 := addAt_def (addAt (booked p.conf ps k) (plc ps k).home (ten p.conf k).load) (plc ps k).sby (ten p.conf k).shadow
    have bd1 := booked_bd hc ps k (by omega)
    have bd2 := addAt_bd (i := (plc ps k).home) (x := (ten p.conf k).load) (X := 12) bd1 ⟨by have := ht.l0; omega, ht.l1⟩
    have bl1 := booked_len p.conf ps k
    have bl2 := addAt_len (booked p.conf ps k) (plc ps k).home (ten p.conf k).load
    rw [bl1] at bl2
    have hst : booked p.conf ps (k + 1) = addAt (addAt (booked p.conf ps k) (plc ps k).home (ten p.conf k).load) (plc ps k).sby (ten p.conf k).shadow := rfl
    have ht1 : (p.conf.tens.getD k ⟨0, 0, 0, 0, 0, 0, false⟩).load = (ten p.conf k).load := rfl
    have ht2 : (p.conf.tens.getD k ⟨0, 0, 0, 0, 0, 0, false⟩).shadow = (ten p.conf k).shadow := rfl
    have l0 := ht.l0
    have l1 := ht.l1
    have s0 := ht.s0
    have s1 := ht.s1
    generalize hD : booked p.conf ps (k + 1) = bb at *
    generalize hA : addAt (booked p.conf ps k) (plc ps k).home (ten p.conf k).load = A at *
    generalize hB : booked p.conf ps k = B at *
    generalize hC : addAt A (plc ps k).sby (ten p.conf k).shadow = C at *
    subst hst
    by_cases c1 : 0 ≤ (plc ps k).home ∧ (plc ps k).home < p.conf.cells.length
    · have f1 := D1.1 (by rw [bl1]; exact c1)
      have g3 := getD_at (l := B) (i := (plc ps k).home.toNat) (d := 0) (by rw [bl1]; omega)
      have b3 := bd1 (plc ps k).home.toNat
      have w2 : IntKind.wrap .i64 (B.getD (plc ps k).home.toNat 0 + (ten p.conf k).load) = B.getD (plc ps k).home.toNat 0 + (ten p.conf k).load := w64 (by omega) (by omega)
      rw [show (decide (0 ≤ (plc ps k).home) && decide ((plc ps k).home < (p.conf.cells.length : Int))) = true by simp; exact c1] at B1
      by_cases c2 : 0 ≤ (plc ps k).sby ∧ (plc ps k).sby < p.conf.cells.length
      · have f2 := D2.1 (by rw [bl2]; exact c2)
        have g4 := getD_at (l := A) (i := (plc ps k).sby.toNat) (d := 0) (by rw [bl2]; omega)
        have b4 := bd2 (plc ps k).sby.toNat
        have w3 : IntKind.wrap .i64 (A.getD (plc ps k).sby.toNat 0 + (ten p.conf k).shadow) = A.getD (plc ps k).sby.toNat 0 + (ten p.conf k).shadow := w64 (by omega) (by omega)
        rw [show (decide (0 ≤ (plc ps k).sby) && decide ((plc ps k).sby < (p.conf.cells.length : Int))) = true by simp; exact c2] at B2
        simp -implicitDefEqProofs only [go_sem, ir25_l0, eQ, eK, e2, h2, e5, h5, e22, e23, e24, d1, w1, q0, q1, q1b, q2, tk, tl, g2, vpS B1 rfl, vpS B2 rfl, c1, c2, bl1, bl2, g3, g4, ht1, ht2, w2, w3, f1, f2]
        refine .next hlt ⟨ver, ?_, ?_, ?_, ?_, ?_, ?_, ?_, by omega⟩ <;> simp -implicitDefEqProofs only [go_sem, e2, h2, e5, e22, e23, w1, eQ, hD]
      · have f2 := D2.2 (by rw [bl2]; exact c2)
        rw [show (decide (0 ≤ (plc ps k).sby) && decide ((plc ps k).sby < (p.conf.cells.length : Int))) = false by simp; omega] at B2
        simp -implicitDefEqProofs only [go_sem, ir25_l0, eQ, eK, e2, h2, e5, h5, e22, e23, e24, d1, w1, q0, q1, q1b, q2, tk, tl, g2, vpS B1 rfl, vpS B2 rfl, c1, bl1, bl2, g3, ht1, ht2, w2, f1]
        refine .next hlt ⟨ver, ?_, ?_, ?_, ?_, ?_, ?_, ?_, by omega⟩ <;> simp -implicitDefEqProofs only [go_sem, e2, h2, e5, e22, e23, w1, eQ, hD, f2]
    · have f1 := D1.2 (by rw [bl1]; exact c1)
      subst f1
      rw [show (decide (0 ≤ (plc ps k).home) && decide ((plc ps k).home < (p.conf.cells.length : Int))) = false by simp; omega] at B1
      by_cases c2 : 0 ≤ (plc ps k).sby ∧ (plc ps k).sby < p.conf.cells.length
      · have f2 := D2.1 (by rw [bl2]; exact c2)
        have g4 := getD_at (l := A) (i := (plc ps k).sby.toNat) (d := 0) (by rw [bl2]; omega)
        have b4 := bd2 (plc ps k).sby.toNat
        have w3 : IntKind.wrap .i64 (A.getD (plc ps k).sby.toNat 0 + (ten p.conf k).shadow) = A.getD (plc ps k).sby.toNat 0 + (ten p.conf k).shadow := w64 (by omega) (by omega)
        rw [show (decide (0 ≤ (plc ps k).sby) && decide ((plc ps k).sby < (p.conf.cells.length : Int))) = true by simp; exact c2] at B2
        simp -implicitDefEqProofs only [go_sem, ir25_l0, eQ, eK, e2, h2, e5, h5, e22, e23, e24, d1, w1, q0, q1, q1b, q2, tk, tl, g2, vpS B1 rfl, vpS B2 rfl, c2, bl1, bl2, g4, ht1, ht2, w3, f2]
        refine .next hlt ⟨ver, ?_, ?_, ?_, ?_, ?_, ?_, ?_, by omega⟩ <;> simp -implicitDefEqProofs only [go_sem, e2, h2, e5, e22, e23, w1, eQ, hD]
      · have f2 := D2.2 (by rw [bl2]; exact c2)
        rw [show (decide (0 ≤ (plc ps k).sby) && decide ((plc ps k).sby < (p.conf.cells.length : Int))) = false by simp; omega] at B2
        simp -implicitDefEqProofs only [go_sem, ir25_l0, eQ, eK, e2, h2, e5, h5, e22, e23, e24, d1, w1, q0, q1, q1b, q2, tk, tl, g2, vpS B1 rfl, vpS B2 rfl, bl1, bl2, ht1, ht2]
        refine .next hlt ⟨ver, ?_, ?_, ?_, ?_, ?_, ?_, ?_, by omega⟩ <;> simp -implicitDefEqProofs only [go_sem, e2, h2, e5, h5, e22, e23, w1, eQ, hD, f2]
  · have : k = N := by omega
    subst this
    have d1 : decide ((k : Int) < (k : Int)) = false := by simp
    simp -implicitDefEqProofs only [go_sem, ir25_l0, e23, e24, d1]
    exact .exit ⟨rfl, ver, by simp -implicitDefEqProofs only [go_sem, e5], h5⟩
theorem FVF_Booked (p : Prob) (hc : ConfOk p.conf) (ps : List Plc) (hp : ps.length ≤ 1000000) : FVF PP shF 25 [.agg (eQ p), .sl (ps.map eP)] (dL (booked p.conf ps (min ps.length p.conf.tens.length))) := by
  refine FVF_ok (F_ok PP25 rfl ⟨by simp [ir25], by simp⟩ ?_)
  have hn := hc.lens.c
  have hc0 : p.conf.cells.length ≠ 0 := by have := hc.c0; have := hc.z0; have := hc.r0; omega
  have ht := hc.t1
  have m1 : (0 : Int) ≤ (p.conf.cells.length : Int) ∧ (p.conf.cells.length : Int) ≤ (p.conf.cells.length : Int) ∧ ((8 : Nat) : Int) * (p.conf.cells.length : Int) ≤ 281474976710656 ∧ (p.conf.cells.length : Int) ≤ 9223372036854775807 := by omega
  have mn : (if (p.conf.tens.length : Int) < (ps.length : Int) then (p.conf.tens.length : Int) else (ps.length : Int)) = ((min ps.length p.conf.tens.length : Nat) : Int) := by split <;> omega
  have hN1 : min ps.length p.conf.tens.length ≤ ps.length := by omega
  have hN2 : min ps.length p.conf.tens.length ≤ p.conf.tens.length := by omega
  generalize min ps.length p.conf.tens.length = N at *
  have m2 : (0 : Int) ≤ (N : Int) ∧ (N : Int) ≤ (ps.length : Int) := by omega
  have m3 : (List.map eP ps).all (fun el => el.length == 2) = true := by simp [List.all_eq_true]
  have htk : List.take N (ps.map eP) = (ps.take N).map eP := List.map_take.symm
  have hln : ((List.take N ps).length : Int) = (N : Int) := by rw [List.length_take]; omega
  simp -implicitDefEqProofs only [go_sem, ir25, eQ, eK, m1, mn, m2, m3, htk, hln]
  refine (booked_l0 p hc ps N hN1 hN2 0 _ ?_).mono ?_
  · refine ⟨1, ?_, ?_, ?_, ?_, ?_, ?_, ?_, by omega⟩ <;> simp -implicitDefEqProofs only [go_sem, eQ, booked, List.map_replicate]
  rintro e ⟨E, H⟩ ⟨rfl, ver, e5, h5⟩
  simp only at e5 h5
  have ho : SlB H 13 1 ((booked p.conf ps N).map eI) (.ms 13 ver 0 p.conf.cells.length p.conf.cells.length) := SlB.mk (by simp [booked_len]) hc0 h5
  simp -implicitDefEqProofs only [go_sem, e5, ho.frz (by decide) (closed_eI _), ho.fresh (by decide) (lits_eI _)]
theorem add_F (l : List Int) (i x : Int) (n : Nat) (hn : l.length = n) (hw : 0 ≤ i ∧ i < (n : Int) → IntKind.wrap .i64 (l.getD i.toNat 0 + x) = l.getD i.toNat 0 + x) : ∀ (H : VHeap) (b ver base : Nat), hg H b = ⟨ver, 1, true, l.map eI⟩ → H.length ≤ base →
    F PP shF 78 [.ms b ver 0 n n, dI i, dI x] H base = some (.tup [], hs H b ⟨ver, 1, true, (addAt l i x).map eI⟩) := by
  intro H b ver base hb hbase
  have D := addAt_def l i x
  rw [hn] at D
  rw [F_fun PP78 rfl ⟨by simp [ir78], by simpa using hbase⟩]
  by_cases h : 0 ≤ i ∧ i < (n : Int)
  · have hg1 := getD_at (l := l) (i := i.toNat) (d := 0) (by omega)
    have hw := hw h
    have hd := D.1 h
    simp -implicitDefEqProofs only [go_sem, ir78, hb, h, hn, hg1, hw, hd]
  · have hd := D.2 h
    have hself : hs H b ⟨ver, 1, true, (addAt l i x).map eI⟩ = H := by rw [hd, ← hb]; exact hs_self (hg_lt (by rw [hb]))
    rw [hself]
    by_cases h0 : 0 ≤ i
    · have h1 : decide (i < (n : Int)) = false := by simp; omega
      simp -implicitDefEqProofs only [go_sem, ir78, hb, h0, h1, hn]
    · simp -implicitDefEqProofs only [go_sem, ir78, hb, h0, hn]
def L58 (p : Prob) (ps : List Plc) (k : Nat) (w : VSt) : Prop := ∃ ver : Nat, gt .bad w.E 2 = .mp 2 1 0 0 ∧ hg w.H 2 = ⟨1, 0, true, [eQ p]⟩ ∧ gt .bad w.E 1 = .sl (ps.map eP) ∧ gt .bad w.E 5 = .ms 11 ver 0 p.conf.cells.length p.conf.cells.length ∧ hg w.H 11 = ⟨ver, 1, true, (booked p.conf ps k).map eI⟩ ∧
  gt .bad w.E 6 = dI (k : Nat) ∧ k ≤ ps.length
def Q58 (p : Prob) (ps : List Plc) (e : Ex) (w : VSt) : Prop := e = .exit 0 ∧ ∃ ver : Nat, gt .bad w.E 5 = .ms 11 ver 0 p.conf.cells.length p.conf.cells.length ∧ hg w.H 11 = ⟨ver, 1, true, (booked p.conf ps ps.length).map eI⟩
theorem rbooked_l0 (p : Prob) (hc : ConfOk p.conf) (ps : List Plc) (hN2 : ps.length ≤ p.conf.tens.length) : ∀ k w, L58 p ps k w → Ok (R PP shF 0 47 (.loop ir58_l0) w) (Q58 p ps) := by
  refine Ok_up ps.length (L58 p ps) fun k w hI => ?_
  obtain ⟨E, H⟩ := w
  obtain ⟨ver, e2, h2, e1, e5, h5, e6, hk⟩ := hI
  simp only at e2 h2 e1 e5 h5 e6
  have hn := hc.lens.c
  have hn7 := hc.c1
  have ht5 := hc.t1
  have w1 : IntKind.wrap .i64 ((k : Int) + 1) = ((k + 1 : Nat) : Int) := by rw [w64 (by omega) (by omega)]; rfl
  by_cases hlt : k < ps.length
  · have d1 : decide ((k : Int) < (ps.length : Int)) = true := by simp; omega
    have q1 : (k : Int) < (ps.length : Int) := by omega
    have q0 : (0 : Int) ≤ (k : Int) := by omega
    have g1 : ps[k]? = some (plc ps k) := getD_at (l := ps) (i := k) (d := ⟨0, 0⟩) (by omega)
    have g2 := getD_at (l := p.conf.tens) (i := k) (d := ⟨0, 0, 0, 0, 0, 0, false⟩) (by omega)
    have q2 : (k : Int) < (p.conf.tens.length : Int) := by omega
    have ht := ten_ok hc (k := k) (by omega)
    have bd1 := booked_bd hc ps k (by omega)
    have bd2 := addAt_bd (i := (plc ps k).home) (x := (ten p.conf k).load) (X := 12) bd1 ⟨by have := ht.l0; omega, ht.l1⟩
    have bl1 := booked_len p.conf ps k
    have bl2 := addAt_len (booked p.conf ps k) (plc ps k).home (ten p.conf k).load
    rw [bl1] at bl2
    have hst : booked p.conf ps (k + 1) = addAt (addAt (booked p.conf ps k) (plc ps k).home (ten p.conf k).load) (plc ps k).sby (ten p.conf k).shadow := rfl
    have ht1 : (p.conf.tens.getD k ⟨0, 0, 0, 0, 0, 0, false⟩).load = (ten p.conf k).load := rfl
    have ht2 : (p.conf.tens.getD k ⟨0, 0, 0, 0, 0, 0, false⟩).shadow = (ten p.conf k).shadow := rfl
    have l0 := ht.l0
    have l1 := ht.l1
    have s0 := ht.s0
    have s1 := ht.s1
    have A1 := add_F (booked p.conf ps k) (plc ps k).home (ten p.conf k).load _ bl1 (fun _ => by have := bd1 (plc ps k).home.toNat; exact w64 (by omega) (by omega))
    have A2 := add_F (addAt (booked p.conf ps k) (plc ps k).home (ten p.conf k).load) (plc ps k).sby (ten p.conf k).shadow _ bl2 (fun _ => by have := bd2 (plc ps k).sby.toNat; exact w64 (by omega) (by omega))
    simp -implicitDefEqProofs only [go_sem, ir58_l0, eQ, eK, e2, h2, e1, e5, h5, e6, d1, w1, q0, q1, q2, g1, g2, ht1, ht2, A1, A2]
    refine .next hlt ⟨ver, ?_, ?_, ?_, ?_, ?_, ?_, by omega⟩ <;> simp -implicitDefEqProofs only [go_sem, e2, h2, e1, e5, w1, eQ, hst]
  · have : k = ps.length := by omega
    subst this
    have d1 : decide ((ps.length : Int) < (ps.length : Int)) = false := by simp
    simp -implicitDefEqProofs only [go_sem, ir58_l0, e1, e6, d1]
    exact .exit ⟨rfl, ver, by simp -implicitDefEqProofs only [go_sem, e5], h5⟩
theorem FVF_rBooked (p : Prob) (hc : ConfOk p.conf) (ps : List Plc) (hN2 : ps.length ≤ p.conf.tens.length) : FVF PP shF 58 [.agg (eQ p), .sl (ps.map eP)] (dL (booked p.conf ps ps.length)) := by
  refine FVF_ok (F_ok PP58 rfl ⟨by simp [ir58], by simp⟩ ?_)
  have hn := hc.lens.c
  have hc0 : p.conf.cells.length ≠ 0 := by have := hc.c0; have := hc.z0; have := hc.r0; omega
  have ht := hc.t1
  have m1 : (0 : Int) ≤ (p.conf.cells.length : Int) ∧ (p.conf.cells.length : Int) ≤ (p.conf.cells.length : Int) ∧ ((8 : Nat) : Int) * (p.conf.cells.length : Int) ≤ 281474976710656 ∧ (p.conf.cells.length : Int) ≤ 9223372036854775807 := by omega
  simp -implicitDefEqProofs only [go_sem, ir58, eQ, eK, m1]
  refine (rbooked_l0 p hc ps hN2 0 _ ?_).mono ?_
  · refine ⟨1, ?_, ?_, ?_, ?_, ?_, ?_, by omega⟩ <;> simp -implicitDefEqProofs only [go_sem, eQ, booked, List.map_replicate]
  rintro e ⟨E, H⟩ ⟨rfl, ver, e5, h5⟩
  simp only at e5 h5
  have ho : SlB H 11 1 ((booked p.conf ps ps.length).map eI) (.ms 11 ver 0 p.conf.cells.length p.conf.cells.length) := SlB.mk (by simp [booked_len]) hc0 h5
  simp -implicitDefEqProofs only [go_sem, e5, ho.frz (by decide) (closed_eI _), ho.fresh (by decide) (lits_eI _)]
theorem FV_Apart (c : Conf) (hc : ConfOk c) (a b : Int) : FV PP shF 126 [.agg (eK c), dI a, dI b] = some (dB (apartB c a b)) := by
  refine FV_ok (F_ok PP126 rfl ⟨by simp [ir126], by simp⟩ ?_)
  unfold apartB
  by_cases h0 : 0 ≤ regOf c a
  · by_cases h1 : 0 ≤ regOf c b
    · simp -implicitDefEqProofs only [go_sem, ir126, eK, vpS (FV_RegionOf c hc.lens a) rfl, vpS (FV_RegionOf c hc.lens b) rfl, h0, h1]
    · simp -implicitDefEqProofs only [go_sem, ir126, eK, vpS (FV_RegionOf c hc.lens a) rfl, vpS (FV_RegionOf c hc.lens b) rfl, h0, h1]
  · simp -implicitDefEqProofs only [go_sem, ir126, eK, vpS (FV_RegionOf c hc.lens a) rfl, vpS (FV_RegionOf c hc.lens b) rfl, h0]
theorem apartB_symm (c : Conf) (a b : Int) : apartB c a b = apartB c b a := by
  unfold apartB
  rw [Bool.and_comm (decide (0 ≤ regOf c a)), show (regOf c a != regOf c b) = (regOf c b != regOf c a) from by rw [bne_comm]]
/-- What append answers. -/
noncomputable def apP (esz bytes base : Nat) (dst : Option Nat) (H : VHeap) (s x : DV) : DV × VEff := (vappend esz bytes base dst H s x).getD (.bad, none)
/-- The block of a list after append. -/
def apB (b d : Nat) (X : List (List DV)) : Nat := if X = [] then b else d
theorem app_ok {esz bytes base d b : Nat} {H : VHeap} {L X : List (List DV)} {v x : DV} (hL : SlB H b esz L v) (hX : elems H esz x = some X) (hu : X.all (fun el => el.length == esz && el.all oneD) = true) (he : esz ≠ 0) (hs : (L.length + X.length) * bytes ≤ 140737488355328) (hs2 : L.length + X.length ≤ 9223372036854775807) :
    vappend esz bytes base (some d) H v x = some (apP esz bytes base (some d) H v x) ∧ SlB ((apP esz bytes base (some d) H v x).2.getD H) (apB b (base + d) X) esz (L ++ X) (apP esz bytes base (some d) H v x).1 ∧ (∀ c, c ≠ b → c ≠ base + d → hg ((apP esz bytes base (some d) H v x).2.getD H) c = hg H c) ∧ ((apP esz bytes base (some d) H v x).2.getD H).length ≤ max H.length (base + d + 1) ∧ H.length ≤ ((apP esz bytes base (some d) H v x).2.getD H).length := by
  have hcore : ∃ v' ef, vappend esz bytes base (some d) H v x = some (v', ef) ∧ SlB (ef.getD H) (apB b (base + d) X) esz (L ++ X) v' ∧ (∀ c, c ≠ b → c ≠ base + d → hg (ef.getD H) c = hg H c) ∧ (ef.getD H).length ≤ max H.length (base + d + 1) ∧ H.length ≤ (ef.getD H).length := by
    unfold vappend
    rw [hX]
    simp only [Option.bind_some]
    by_cases h0 : X = []
    · subst h0
      rcases hL with ⟨rfl, rfl⟩ | ⟨hz, ver, rfl, hb⟩
      · exact ⟨_, none, rfl, .inl ⟨rfl, rfl⟩, fun c _ _ => rfl, by simp; omega, Nat.le_refl _⟩
      · have hB : apB b (base + d) ([] : List (List DV)) = b := by unfold apB; rw [if_pos rfl]
        refine ⟨.ms b ver 0 L.length L.length, none, ?_, .inr ⟨by simpa using hz, ver, by rw [hB]; simp, by rw [hB]; simpa using hb⟩, fun c _ _ => rfl, by simp; omega, Nat.le_refl _⟩
        simp
    · have hXl : X.length ≠ 0 := by simpa using h0
      have hB : apB b (base + d) X = base + d := by unfold apB; rw [if_neg h0]
      rw [hB]
      rcases hL with ⟨rfl, rfl⟩ | ⟨hz, ver, rfl, hb⟩
      · simp only
        rw [if_neg h0, if_pos ⟨by simpa using hs, by simpa using hs2, he, hu⟩]
        refine ⟨_, _, rfl, .inr ⟨by simpa using h0, _, rfl, ?_⟩, fun c c1 c2 => ?_, ?_, ?_⟩
        · simp only [Option.getD_some, hg_hs, ↓reduceIte, List.nil_append]
        · simp only [Option.getD_some, hg_hs]; rw [if_neg (Ne.symm c2)]
        · simp only [Option.getD_some, hs_len]; omega
        · simp only [Option.getD_some, hs_len]; omega
      · simp only
        rw [if_neg (by omega), if_pos ⟨by rw [hb], he, Nat.le_refl _, hs, hs2, hu⟩]
        have hp : (hg H b).part ver 0 L.length = some L := by
          rw [hb]; unfold VB.part
          simp [he]
        rw [hp]
        have hbl : b < H.length := by
          rcases Nat.lt_or_ge b H.length with h1 | h1
          · exact h1
          · rw [hg_ge H h1] at hb; simp at hb
        refine ⟨_, _, rfl, .inr ⟨by simp [h0], _, by simp; rfl, ?_⟩, fun c c1 c2 => ?_, ?_, ?_⟩
        · simp only [Option.getD_some, hg_hs, ↓reduceIte]
        · simp only [Option.getD_some, hg_hs]; rw [if_neg (Ne.symm c2), if_neg (Ne.symm c1)]
        · simp only [Option.getD_some, hs_len]; omega
        · simp only [Option.getD_some, hs_len]; omega
  obtain ⟨v', ef, h1, h2, h3, h4, h5⟩ := hcore
  have e : apP esz bytes base (some d) H v x = (v', ef) := by unfold apP; rw [h1]; rfl
  rw [e]
  exact ⟨h1, h2, h3, h4, h5⟩
/-- A list that lies in one of some blocks, or nowhere. -/
def SlO (H : VHeap) (S : Nat → Prop) (e : Nat) (L : List (List DV)) (v : DV) : Prop := ∃ b, S b ∧ SlB H b e L v
theorem SlO.keep {H H' : VHeap} {S : Nat → Prop} {e : Nat} {L : List (List DV)} {v : DV} (h : SlO H S e L v) (hb : ∀ b, S b → hg H' b = hg H b) : SlO H' S e L v := by
  obtain ⟨b, h1, h2⟩ := h
  exact ⟨b, h1, h2.keep (hb b h1)⟩
theorem SlO.hs {H : VHeap} {S : Nat → Prop} {e d : Nat} {x : VB} {L : List (List DV)} {v : DV} (h : SlO H S e L v) (hd : ¬ S d) : SlO (Cp.hs H d x) S e L v :=
  h.keep fun b hb => by rw [hg_hs, if_neg (fun e => hd (by rw [e]; exact hb))]
theorem SlO.nil {H : VHeap} {S : Nat → Prop} {e b : Nat} (h : S b) : SlO H S e [] (.lit (.slice none 0 0)) := ⟨b, h, SlB.nil⟩
/-- append to such a list. -/
theorem SlO.app {esz bytes base d : Nat} {S : Nat → Prop} {H : VHeap} {L X : List (List DV)} {v x : DV} (hL : SlO H S esz L v) (hX : elems H esz x = some X) (hd : S (base + d)) (hu : X.all (fun el => el.length == esz && el.all oneD) = true) (he : esz ≠ 0) (hs : (L.length + X.length) * bytes ≤ 140737488355328) (hs2 : L.length + X.length ≤ 9223372036854775807) :
    vappend esz bytes base (some d) H v x = some (apP esz bytes base (some d) H v x) ∧ SlO ((apP esz bytes base (some d) H v x).2.getD H) S esz (L ++ X) (apP esz bytes base (some d) H v x).1 ∧ (∀ c, ¬ S c → hg ((apP esz bytes base (some d) H v x).2.getD H) c = hg H c) := by
  obtain ⟨b, h1, h2⟩ := hL
  obtain ⟨a1, a2, a3, _⟩ := app_ok (d := d) h2 hX hu he hs hs2
  refine ⟨a1, ⟨_, ?_, a2⟩, fun c hc => a3 c (fun e => hc (by rw [e]; exact h1)) (fun e => hc (by rw [e]; exact hd))⟩
  unfold apB
  split
  · exact h1
  · exact hd
theorem SlO.frz {H : VHeap} {S : Nat → Prop} {e : Nat} {L : List (List DV)} {v : DV} (h : SlO H S e L v) (he : e ≠ 0) (hc : L.all closedL = true) (n : Nat) : frzD H (n + 1) v = some (.sl L) := by
  obtain ⟨b, _, h⟩ := h; exact h.frz he hc n
theorem SlO.fresh {H : VHeap} {S : Nat → Prop} {e : Nat} {L : List (List DV)} {v : DV} (h : SlO H S e L v) (he : e ≠ 0) (hc : L.all (fun el => el.all lit1) = true) (n : Nat) : freshD H (n + 2) v = true := by
  obtain ⟨b, _, h⟩ := h; exact h.fresh he hc n
theorem elems_ms1 {H : VHeap} {b ver e n : Nat} {L : List (List DV)} (hb : hg H b = ⟨ver, e, true, L⟩) (he : e ≠ 0) (hn : L.length = n) : elems H e (.ms b ver 0 n n) = some L := by
  subst hn
  simp only [elems, VB.part]
  rw [hb]
  simp [he]
/-- A placement that fits. -/
def FitP (c : Conf) (ps : List Plc) : Prop := ps.length = c.tens.length ∧ ∀ x, x ∈ ps → PlcOk c x
def inB (n lo hi : Int) : Bool := decide (lo ≤ n) && decide (n ≤ hi)
theorem FV_in (n lo hi : Int) : FV PP shF 69 [dI n, dI lo, dI hi] = some (dB (inB n lo hi)) := by
  refine FV_ok (F_ok PP69 rfl ⟨by simp [ir69], by simp⟩ ?_)
  unfold inB
  by_cases h : lo ≤ n
  · simp -implicitDefEqProofs only [go_sem, ir69, h]
  · simp -implicitDefEqProofs only [go_sem, ir69, h]
theorem FV_tb (n lo hi : Int) : FV PP shF 66 [dI n, dI lo, dI hi] = some (dB (inB n lo hi)) := FV_tbetween n lo hi
def limB (c : Conf) : Bool := inB c.regions 1 4 && inB (c.zones.length : Nat) 1 8 && inB (c.cells.length : Nat) 1 16 && inB (c.vers.length : Nat) 1 30 && inB (c.reps.length : Nat) 1 5 && inB (c.obs.length : Nat) 1 9 && decide ((c.tens.length : Int) ≤ 32)
theorem FV_sized (c : Conf) : FV PP shF 63 [.agg (eK c)] = some (dB (limB c)) := by
  refine FV_ok (F_ok PP63 rfl ⟨by simp [ir63], by simp⟩ ?_)
  unfold limB
  have B1 := FV_tb c.regions 1 4
  have B2 := FV_tb (c.zones.length : Nat) 1 8
  have B3 := FV_tb (c.cells.length : Nat) 1 16
  have B4 := FV_tb (c.vers.length : Nat) 1 30
  have B5 := FV_tb (c.reps.length : Nat) 1 5
  have B6 := FV_tb (c.obs.length : Nat) 1 9
  generalize inB c.regions 1 4 = b1 at *
  generalize inB (c.zones.length : Nat) 1 8 = b2 at *
  generalize inB (c.cells.length : Nat) 1 16 = b3 at *
  generalize inB (c.vers.length : Nat) 1 30 = b4 at *
  generalize inB (c.reps.length : Nat) 1 5 = b5 at *
  generalize inB (c.obs.length : Nat) 1 9 = b6 at *
  cases b1
  · simp -implicitDefEqProofs only [go_sem, ir63, eK, vpS B1 rfl]
  cases b2
  · simp -implicitDefEqProofs only [go_sem, ir63, eK, vpS B1 rfl, vpS B2 rfl]
  cases b3
  · simp -implicitDefEqProofs only [go_sem, ir63, eK, vpS B1 rfl, vpS B2 rfl, vpS B3 rfl]
  cases b4
  · simp -implicitDefEqProofs only [go_sem, ir63, eK, vpS B1 rfl, vpS B2 rfl, vpS B3 rfl, vpS B4 rfl]
  cases b5
  · simp -implicitDefEqProofs only [go_sem, ir63, eK, vpS B1 rfl, vpS B2 rfl, vpS B3 rfl, vpS B4 rfl, vpS B5 rfl]
  cases b6
  · simp -implicitDefEqProofs only [go_sem, ir63, eK, vpS B1 rfl, vpS B2 rfl, vpS B3 rfl, vpS B4 rfl, vpS B5 rfl, vpS B6 rfl]
  simp -implicitDefEqProofs only [go_sem, ir63, eK, vpS B1 rfl, vpS B2 rfl, vpS B3 rfl, vpS B4 rfl, vpS B5 rfl, vpS B6 rfl]
theorem FV_limits (c : Conf) : FV PP shF 67 [.agg (eK c)] = some (dB (limB c)) := by
  refine FV_ok (F_ok PP67 rfl ⟨by simp [ir67], by simp⟩ ?_)
  unfold limB
  have B1 := FV_in c.regions 1 4
  have B2 := FV_in (c.zones.length : Nat) 1 8
  have B3 := FV_in (c.cells.length : Nat) 1 16
  have B4 := FV_in (c.vers.length : Nat) 1 30
  have B5 := FV_in (c.reps.length : Nat) 1 5
  have B6 := FV_in (c.obs.length : Nat) 1 9
  generalize inB c.regions 1 4 = b1 at *
  generalize inB (c.zones.length : Nat) 1 8 = b2 at *
  generalize inB (c.cells.length : Nat) 1 16 = b3 at *
  generalize inB (c.vers.length : Nat) 1 30 = b4 at *
  generalize inB (c.reps.length : Nat) 1 5 = b5 at *
  generalize inB (c.obs.length : Nat) 1 9 = b6 at *
  cases b1
  · simp -implicitDefEqProofs only [go_sem, ir67, eK, vpS B1 rfl]
  cases b2
  · simp -implicitDefEqProofs only [go_sem, ir67, eK, vpS B1 rfl, vpS B2 rfl]
  cases b3
  · simp -implicitDefEqProofs only [go_sem, ir67, eK, vpS B1 rfl, vpS B2 rfl, vpS B3 rfl]
  cases b4
  · simp -implicitDefEqProofs only [go_sem, ir67, eK, vpS B1 rfl, vpS B2 rfl, vpS B3 rfl, vpS B4 rfl]
  cases b5
  · simp -implicitDefEqProofs only [go_sem, ir67, eK, vpS B1 rfl, vpS B2 rfl, vpS B3 rfl, vpS B4 rfl, vpS B5 rfl]
  cases b6
  · simp -implicitDefEqProofs only [go_sem, ir67, eK, vpS B1 rfl, vpS B2 rfl, vpS B3 rfl, vpS B4 rfl, vpS B5 rfl, vpS B6 rfl]
  simp -implicitDefEqProofs only [go_sem, ir67, eK, vpS B1 rfl, vpS B2 rfl, vpS B3 rfl, vpS B4 rfl, vpS B5 rfl, vpS B6 rfl]
def allN (q : Nat → Bool) : Nat → Bool
  | 0 => true
  | k + 1 => allN q k && q k
theorem allN_false {q : Nat → Bool} {k : Nat} (h : q k = false) : ∀ n, k < n → allN q n = false
  | n + 1, hn => by
    simp only [allN]
    by_cases hk : k = n
    · rw [← hk, h, Bool.and_false]
    · rw [allN_false h n (by omega), Bool.false_and]
theorem allN_next {q : Nat → Bool} {k : Nat} (h : allN q k = true) (hq : q k = true) : allN q (k + 1) = true := by simp only [allN, h, hq, Bool.and_self]
def zonesB (c : Conf) (l : List Int) : Bool := allN (fun i => inB (l.getD i 0) 0 ((c.zones.length : Int) - 1)) l.length
def Qb (b : Bool) (t : Nat) (e : Ex) (w : VSt) : Prop := (e = .exit 0 ∧ b = true) ∨ (e = .ret ∧ b = false ∧ gt .bad w.E t = dB false)
def L68 (c : Conf) (l : List Int) (k : Nat) (w : VSt) : Prop := gt .bad w.E 1 = dL l ∧ gt .bad w.E 2 = .mp 2 1 0 0 ∧ hg w.H 2 = ⟨1, 0, true, [eK c]⟩ ∧ gt .bad w.E 5 = dI (k : Nat) ∧ k ≤ l.length ∧ allN (fun i => inB (l.getD i 0) 0 ((c.zones.length : Int) - 1)) k = true
theorem rzones_l0 (c : Conf) (hz : c.zones.length ≤ 1000) (l : List Int) (hl : l.length ≤ 1000) : ∀ k w, L68 c l k w → Ok (R PP shF 0 22 (.loop ir68_l0) w) (Qb (zonesB c l) 4) := by
  refine Ok_up l.length (L68 c l) fun k w hI => ?_
  obtain ⟨E, H⟩ := w
  obtain ⟨e1, e2, h2, e5, hk, ha⟩ := hI
  simp only at e1 e2 h2 e5
  have w1 : IntKind.wrap .i64 ((k : Int) + 1) = ((k + 1 : Nat) : Int) := by rw [w64 (by omega) (by omega)]; rfl
  have w2 : IntKind.wrap .i64 ((c.zones.length : Int) - 1) = (c.zones.length : Int) - 1 := w64 (by omega) (by omega)
  by_cases hlt : k < l.length
  · have d1 : decide ((k : Int) < (l.length : Int)) = true := by simp; omega
    have q1 : (k : Int) < (l.length : Int) := by omega
    have q0 : (0 : Int) ≤ (k : Int) := by omega
    have g1 := getD_at (l := l) (i := k) (d := 0) hlt
    have B := FV_in (l.getD k 0) 0 ((c.zones.length : Int) - 1)
    cases hb : inB (l.getD k 0) 0 ((c.zones.length : Int) - 1) with
    | true =>
      rw [hb] at B
      simp -implicitDefEqProofs only [go_sem, ir68_l0, eK, e1, e2, h2, e5, d1, q0, q1, g1, w1, w2, vpS B rfl]
      refine .next hlt ⟨?_, ?_, ?_, ?_, by omega, allN_next ha hb⟩ <;> simp -implicitDefEqProofs only [go_sem, e1, e2, h2, w1, eK]
    | false =>
      rw [hb] at B
      simp -implicitDefEqProofs only [go_sem, ir68_l0, eK, e1, e2, h2, e5, d1, q0, q1, g1, w1, w2, vpS B rfl]
      refine .ret (.inr ⟨rfl, allN_false hb _ hlt, ?_⟩)
      simp -implicitDefEqProofs only [go_sem, ]
  · have : k = l.length := by omega
    subst this
    have d1 : decide ((l.length : Int) < (l.length : Int)) = false := by simp
    simp -implicitDefEqProofs only [go_sem, ir68_l0, eK, e1, e2, h2, e5, d1]
    exact .exit (.inl ⟨rfl, ha⟩)
theorem FV_rzones (c : Conf) (hz : c.zones.length ≤ 1000) (l : List Int) (hl : l.length ≤ 1000) : FV PP shF 68 [.agg (eK c), dL l] = some (dB (zonesB c l)) := by
  refine FV_ok (F_ok PP68 rfl ⟨by simp [ir68], by simp⟩ ?_)
  simp -implicitDefEqProofs only [go_sem, ir68, eK]
  refine (rzones_l0 c hz l hl 0 _ ⟨?_, ?_, ?_, ?_, by omega, rfl⟩).mono ?_ <;> (try simp -implicitDefEqProofs only [go_sem, eK])
  rintro e ⟨E, H⟩ (⟨rfl, hb⟩ | ⟨rfl, hb, e4⟩)
  · simp -implicitDefEqProofs only [go_sem, hb]
  · simp only at e4
    simp -implicitDefEqProofs only [go_sem, hb, e4]
def L79 (c : Conf) (l : List Int) (k : Nat) (w : VSt) : Prop := gt .bad w.E 7 = dL l ∧ gt .bad w.E 8 = dI (l.length : Nat) ∧ gt .bad w.E 2 = .mp 2 1 0 0 ∧ hg w.H 2 = ⟨1, 0, true, [eK c]⟩ ∧ gt .bad w.E 9 = dI (k : Nat) ∧ k ≤ l.length ∧ allN (fun i => inB (l.getD i 0) 0 ((c.zones.length : Int) - 1)) k = true
theorem zones_l0 (c : Conf) (hz : c.zones.length ≤ 1000) (l : List Int) (hl : l.length ≤ 1000) : ∀ k w, L79 c l k w → Ok (R PP shF 0 21 (.loop ir79_l0) w) (Qb (zonesB c l) 4) := by
  refine Ok_up l.length (L79 c l) fun k w hI => ?_
  obtain ⟨E, H⟩ := w
  obtain ⟨e7, e8, e2, h2, e9, hk, ha⟩ := hI
  simp only at e7 e8 e2 h2 e9
  have w1 : IntKind.wrap .i64 ((k : Int) + 1) = ((k + 1 : Nat) : Int) := by rw [w64 (by omega) (by omega)]; rfl
  have w2 : IntKind.wrap .i64 ((c.zones.length : Int) - 1) = (c.zones.length : Int) - 1 := w64 (by omega) (by omega)
  by_cases hlt : k < l.length
  · have d1 : decide ((k : Int) < (l.length : Int)) = true := by simp; omega
    have q1 : (k : Int) < (l.length : Int) := by omega
    have q0 : (0 : Int) ≤ (k : Int) := by omega
    have g1 := getD_at (l := l) (i := k) (d := 0) hlt
    have B := FV_tb (l.getD k 0) 0 ((c.zones.length : Int) - 1)
    cases hb : inB (l.getD k 0) 0 ((c.zones.length : Int) - 1) with
    | true =>
      rw [hb] at B
      simp -implicitDefEqProofs only [go_sem, ir79_l0, eK, e7, e8, e2, h2, e9, d1, q0, q1, g1, w1, w2, vpS B rfl]
      refine .next hlt ⟨?_, ?_, ?_, ?_, ?_, by omega, allN_next ha hb⟩ <;> simp -implicitDefEqProofs only [go_sem, e7, e8, e2, h2, w1, eK]
    | false =>
      rw [hb] at B
      simp -implicitDefEqProofs only [go_sem, ir79_l0, eK, e7, e8, e2, h2, e9, d1, q0, q1, g1, w1, w2, vpS B rfl]
      refine .ret (.inr ⟨rfl, allN_false hb _ hlt, ?_⟩)
      simp -implicitDefEqProofs only [go_sem, ]
  · have : k = l.length := by omega
    subst this
    have d1 : decide ((l.length : Int) < (l.length : Int)) = false := by simp
    simp -implicitDefEqProofs only [go_sem, ir79_l0, eK, e8, e9, d1]
    exact .exit (.inl ⟨rfl, ha⟩)
theorem FV_zones (c : Conf) (hz : c.zones.length ≤ 1000) (l : List Int) (hl : l.length ≤ 1000) : FV PP shF 79 [.agg (eK c), dL l] = some (dB (zonesB c l)) := by
  refine FV_ok (F_ok PP79 rfl ⟨by simp [ir79], by simp⟩ ?_)
  simp -implicitDefEqProofs only [go_sem, ir79, eK]
  refine (zones_l0 c hz l hl 0 _ ⟨?_, ?_, ?_, ?_, ?_, by omega, rfl⟩).mono ?_ <;> (try simp -implicitDefEqProofs only [go_sem, eK])
  rintro e ⟨E, H⟩ (⟨rfl, hb⟩ | ⟨rfl, hb, e4⟩)
  · simp -implicitDefEqProofs only [go_sem, hb]
  · simp only at e4
    simp -implicitDefEqProofs only [go_sem, hb, e4]
def qZ (c : Conf) (i : Nat) : Bool := inB (c.zones.getD i 0) 0 (c.regions - 1)
def qC (c : Conf) (i : Nat) : Bool := inB (c.cells.getD i ⟨0, 0⟩).zone 0 ((c.zones.length : Int) - 1) && inB (c.cells.getD i ⟨0, 0⟩).cap 1 4194304
def qV (c : Conf) (i : Nat) : Bool := decide (0 ≤ (c.vers.getD i ⟨0, 0⟩).low) && decide ((c.vers.getD i ⟨0, 0⟩).low ≤ (c.vers.getD i ⟨0, 0⟩).high) && decide ((c.vers.getD i ⟨0, 0⟩).high ≤ 30)
def firstB (c : Conf) : Bool := (c.vers.getD 0 ⟨0, 0⟩).low == 0
def placedB (c : Conf) : Bool := allN (qZ c) c.zones.length && allN (qC c) c.cells.length && zonesB c c.reps && zonesB c c.obs
def K64 (c : Conf) (w : VSt) : Prop := gt .bad w.E 1 = .mp 1 1 0 0 ∧ hg w.H 1 = ⟨1, 0, true, [eK c]⟩
def L64a (c : Conf) (k : Nat) (w : VSt) : Prop := K64 c w ∧ gt .bad w.E 8 = .sl (c.zones.map eI) ∧ gt .bad w.E 9 = dI (c.zones.length : Nat) ∧ gt .bad w.E 10 = dI (k : Nat) ∧ k ≤ c.zones.length ∧ allN (qZ c) k = true
theorem placed_l0 (c : Conf) (hc : Lens c) (hr : 1 ≤ c.regions ∧ c.regions ≤ 4) : ∀ k w, L64a c k w → Ok (R PP shF 0 54 (.loop ir64_l0) w) (fun e w => (e = .exit 0 ∧ allN (qZ c) c.zones.length = true ∧ K64 c w) ∨ (e = .ret ∧ allN (qZ c) c.zones.length = false ∧ gt .bad w.E 2 = dB false)) := by
  refine Ok_up c.zones.length (L64a c) fun k w hI => ?_
  obtain ⟨E, H⟩ := w
  obtain ⟨⟨e1, h1⟩, e8, e9, e10, hk, ha⟩ := hI
  simp only at e1 h1 e8 e9 e10
  have hz := hc.z
  have w1 : IntKind.wrap .i64 ((k : Int) + 1) = ((k + 1 : Nat) : Int) := by rw [w64 (by omega) (by omega)]; rfl
  have w2 : IntKind.wrap .i64 (c.regions - 1) = c.regions - 1 := w64 (by omega) (by omega)
  by_cases hlt : k < c.zones.length
  · have d1 : decide ((k : Int) < (c.zones.length : Int)) = true := by simp; omega
    have q1 : (k : Int) < (c.zones.length : Int) := by omega
    have q0 : (0 : Int) ≤ (k : Int) := by omega
    have g1 := getD_at (l := c.zones) (i := k) (d := 0) hlt
    have B := FV_tb (c.zones.getD k 0) 0 (c.regions - 1)
    rw [show inB (c.zones.getD k 0) 0 (c.regions - 1) = qZ c k from rfl] at B
    cases hb : qZ c k with
    | true =>
      rw [hb] at B
      simp -implicitDefEqProofs only [go_sem, ir64_l0, eK, e1, h1, e8, e9, e10, d1, q0, q1, g1, w1, w2, vpS B rfl]
      refine .next hlt ⟨⟨?_, ?_⟩, ?_, ?_, ?_, by omega, allN_next ha hb⟩ <;> simp -implicitDefEqProofs only [go_sem, e1, h1, e8, e9, w1, eK]
    | false =>
      rw [hb] at B
      simp -implicitDefEqProofs only [go_sem, ir64_l0, eK, e1, h1, e8, e9, e10, d1, q0, q1, g1, w1, w2, vpS B rfl]
      refine .ret (.inr ⟨rfl, allN_false hb _ hlt, ?_⟩)
      simp -implicitDefEqProofs only [go_sem, ]
  · have : k = c.zones.length := by omega
    subst this
    have d1 : decide ((c.zones.length : Int) < (c.zones.length : Int)) = false := by simp
    simp -implicitDefEqProofs only [go_sem, ir64_l0, eK, e9, e10, d1]
    exact .exit (.inl ⟨rfl, ha, by simp -implicitDefEqProofs only [go_sem, e1], h1⟩)
def L64b (c : Conf) (k : Nat) (w : VSt) : Prop := K64 c w ∧ gt .bad w.E 23 = .sl (c.cells.map eC) ∧ gt .bad w.E 24 = dI (c.cells.length : Nat) ∧ gt .bad w.E 25 = dI (k : Nat) ∧ k ≤ c.cells.length ∧ allN (qC c) k = true
theorem placed_l1 (c : Conf) (hc : Lens c) : ∀ k w, L64b c k w → Ok (R PP shF 0 54 (.loop ir64_l1) w) (fun e w => (e = .exit 2 ∧ allN (qC c) c.cells.length = true ∧ K64 c w) ∨ (e = .ret ∧ allN (qC c) c.cells.length = false ∧ gt .bad w.E 2 = dB false)) := by
  refine Ok_up c.cells.length (L64b c) fun k w hI => ?_
  obtain ⟨E, H⟩ := w
  obtain ⟨⟨e1, h1⟩, e23, e24, e25, hk, ha⟩ := hI
  simp only at e1 h1 e23 e24 e25
  have hz := hc.z
  have hcl := hc.c
  have w1 : IntKind.wrap .i64 ((k : Int) + 1) = ((k + 1 : Nat) : Int) := by rw [w64 (by omega) (by omega)]; rfl
  have w2 : IntKind.wrap .i64 ((c.zones.length : Int) - 1) = (c.zones.length : Int) - 1 := w64 (by omega) (by omega)
  by_cases hlt : k < c.cells.length
  · have d1 : decide ((k : Int) < (c.cells.length : Int)) = true := by simp; omega
    have q1 : (k : Int) < (c.cells.length : Int) := by omega
    have q0 : (0 : Int) ≤ (k : Int) := by omega
    have g1 := getD_at (l := c.cells) (i := k) (d := ⟨0, 0⟩) hlt
    have B1 := FV_tb (c.cells.getD k ⟨0, 0⟩).zone 0 ((c.zones.length : Int) - 1)
    have B2 := FV_tb (c.cells.getD k ⟨0, 0⟩).cap 1 4194304
    have hq : qC c k = (inB (c.cells.getD k ⟨0, 0⟩).zone 0 ((c.zones.length : Int) - 1) && inB (c.cells.getD k ⟨0, 0⟩).cap 1 4194304) := rfl
    cases x1 : inB (c.cells.getD k ⟨0, 0⟩).zone 0 ((c.zones.length : Int) - 1) with
    | true =>
      rw [x1] at B1
      cases x2 : inB (c.cells.getD k ⟨0, 0⟩).cap 1 4194304 with
      | true =>
        rw [x2] at B2
        rw [x1, x2] at hq
        simp -implicitDefEqProofs only [go_sem, ir64_l1, eK, e1, h1, e23, e24, e25, d1, q0, q1, g1, w1, w2, vpS B1 rfl, vpS B2 rfl]
        refine .next hlt ⟨⟨?_, ?_⟩, ?_, ?_, ?_, by omega, allN_next ha hq⟩ <;> simp -implicitDefEqProofs only [go_sem, e1, h1, e23, e24, w1, eK]
      | false =>
        rw [x2] at B2
        rw [x1, x2] at hq
        simp -implicitDefEqProofs only [go_sem, ir64_l1, eK, e1, h1, e23, e24, e25, d1, q0, q1, g1, w1, w2, vpS B1 rfl, vpS B2 rfl]
        refine .ret (.inr ⟨rfl, allN_false hq _ hlt, ?_⟩)
        simp -implicitDefEqProofs only [go_sem, ]
    | false =>
      rw [x1] at B1
      rw [x1] at hq
      simp -implicitDefEqProofs only [go_sem, ir64_l1, eK, e1, h1, e23, e24, e25, d1, q0, q1, g1, w1, w2, vpS B1 rfl, vpS B2 rfl]
      refine .ret (.inr ⟨rfl, allN_false hq _ hlt, ?_⟩)
      simp -implicitDefEqProofs only [go_sem, ]
  · have : k = c.cells.length := by omega
    subst this
    have d1 : decide ((c.cells.length : Int) < (c.cells.length : Int)) = false := by simp
    simp -implicitDefEqProofs only [go_sem, ir64_l1, eK, e24, e25, d1]
    exact .exit (.inl ⟨rfl, ha, by simp -implicitDefEqProofs only [go_sem, e1], h1⟩)
theorem FV_placed (c : Conf) (hc : Lens c) (hr : 1 ≤ c.regions ∧ c.regions ≤ 4) : FV PP shF 64 [.agg (eK c)] = some (dB (placedB c)) := by
  have Z1 := FV_zones c hc.z c.reps hc.p
  have Z2 := FV_zones c hc.z c.obs hc.o
  refine FV_ok (F_ok PP64 rfl ⟨by simp [ir64], by simp⟩ ?_)
  unfold placedB
  simp -implicitDefEqProofs only [go_sem, ir64, eK]
  refine (placed_l0 c hc hr 0 _ ⟨⟨?_, ?_⟩, ?_, ?_, ?_, by omega, rfl⟩).mono ?_ <;> (try simp -implicitDefEqProofs only [go_sem, eK])
  rintro e ⟨E, H⟩ (⟨rfl, hb, e1, h1⟩ | ⟨rfl, hb, e4⟩)
  · simp only at e1 h1
    simp -implicitDefEqProofs only [go_sem, eK, e1, h1, hb]
    refine (placed_l1 c hc 0 _ ⟨⟨?_, ?_⟩, ?_, ?_, ?_, by omega, rfl⟩).mono ?_ <;> (try simp -implicitDefEqProofs only [go_sem, e1, h1, eK])
    rintro e ⟨E, H⟩ (⟨rfl, hb, e1, h1⟩ | ⟨rfl, hb, e4⟩)
    · simp only at e1 h1
      generalize zonesB c c.reps = z1 at *
      generalize zonesB c c.obs = z2 at *
      cases z1
      · simp -implicitDefEqProofs only [go_sem, eK, e1, h1, hb, vpS Z1 rfl]
      · simp -implicitDefEqProofs only [go_sem, eK, e1, h1, hb, vpS Z1 rfl, vpS Z2 rfl]
    · simp only at e4
      simp -implicitDefEqProofs only [go_sem, hb, e4]
  · simp only at e4
    simp -implicitDefEqProofs only [go_sem, hb, e4]
def versB (c : Conf) : Bool := allN (qV c) c.vers.length && firstB c
def qV2 (c : Conf) (i : Nat) : Bool := qV c i && (decide (i ≠ 0) || firstB c)
def L65 (c : Conf) (k : Nat) (w : VSt) : Prop := gt .bad w.E 6 = .sl (c.vers.map eV) ∧ gt .bad w.E 7 = dI (c.vers.length : Nat) ∧ gt .bad w.E 8 = dI (k : Nat) ∧ k ≤ c.vers.length ∧ allN (qV2 c) k = true
theorem vers_l0 (c : Conf) (hc : Lens c) : ∀ k w, L65 c k w → Ok (R PP shF 0 38 (.loop ir65_l0) w) (Qb (allN (qV2 c) c.vers.length) 2) := by
  refine Ok_up c.vers.length (L65 c) fun k w hI => ?_
  obtain ⟨E, H⟩ := w
  obtain ⟨e6, e7, e8, hk, ha⟩ := hI
  simp only at e6 e7 e8
  have hv := hc.v
  have w1 : IntKind.wrap .i64 ((k : Int) + 1) = ((k + 1 : Nat) : Int) := by rw [w64 (by omega) (by omega)]; rfl
  by_cases hlt : k < c.vers.length
  · have d1 : decide ((k : Int) < (c.vers.length : Int)) = true := by simp; omega
    have q1 : (k : Int) < (c.vers.length : Int) := by omega
    have q0 : (0 : Int) ≤ (k : Int) := by omega
    have g1 := getD_at (l := c.vers) (i := k) (d := ⟨0, 0⟩) hlt
    by_cases a1 : 0 ≤ (c.vers.getD k ⟨0, 0⟩).low
    · have b1 : decide ((c.vers.getD k ⟨0, 0⟩).low < 0) = false := decide_eq_false (by omega)
      by_cases a2 : (c.vers.getD k ⟨0, 0⟩).low ≤ (c.vers.getD k ⟨0, 0⟩).high
      · have b2 : decide ((c.vers.getD k ⟨0, 0⟩).high < (c.vers.getD k ⟨0, 0⟩).low) = false := decide_eq_false (by omega)
        by_cases a3 : (c.vers.getD k ⟨0, 0⟩).high ≤ 30
        · have b3 : decide (30 < (c.vers.getD k ⟨0, 0⟩).high) = false := decide_eq_false (by omega)
          by_cases a4 : k = 0
          · have b4 : ((k : Int) == 0) = true := by simp; exact a4
            cases hf : firstB c with
            | true =>
              have b5 : ((c.vers.getD k ⟨0, 0⟩).low != 0) = false := by rw [a4]; unfold firstB at hf; simp only [bne, hf]; rfl
              have hq : qV2 c k = true := by unfold qV2 qV; rw [decide_eq_true a1, decide_eq_true a2, decide_eq_true a3, hf, Bool.or_true]; rfl
              simp -implicitDefEqProofs only [go_sem, ir65_l0, eK, e6, e7, e8, d1, q0, q1, g1, w1, b1, b2, b3, b4, b5]
              refine .next hlt ⟨?_, ?_, ?_, by omega, allN_next ha hq⟩ <;> simp -implicitDefEqProofs only [go_sem, e6, e7, w1, eK]
            | false =>
              have b5 : ((c.vers.getD k ⟨0, 0⟩).low != 0) = true := by rw [a4]; unfold firstB at hf; simp only [bne, hf]; rfl
              have hq : qV2 c k = false := by simp [qV2, hf, a4]
              simp -implicitDefEqProofs only [go_sem, ir65_l0, eK, e6, e7, e8, d1, q0, q1, g1, w1, b1, b2, b3, b4, b5]
              refine .ret (.inr ⟨rfl, allN_false hq _ hlt, ?_⟩)
              simp -implicitDefEqProofs only [go_sem, ]
          · have b4 : ((k : Int) == 0) = false := by simp; exact a4
            have hq : qV2 c k = true := by unfold qV2 qV; rw [decide_eq_true a1, decide_eq_true a2, decide_eq_true a3, decide_eq_true (show k ≠ 0 from a4), Bool.true_or]; rfl
            simp -implicitDefEqProofs only [go_sem, ir65_l0, eK, e6, e7, e8, d1, q0, q1, g1, w1, b1, b2, b3, b4]
            refine .next hlt ⟨?_, ?_, ?_, by omega, allN_next ha hq⟩ <;> simp -implicitDefEqProofs only [go_sem, e6, e7, w1, eK]
        · have b3 : decide (30 < (c.vers.getD k ⟨0, 0⟩).high) = true := decide_eq_true (by omega)
          have hq : qV2 c k = false := by unfold qV2 qV; rw [decide_eq_false a3, Bool.and_false, Bool.false_and]
          simp -implicitDefEqProofs only [go_sem, ir65_l0, eK, e6, e7, e8, d1, q0, q1, g1, w1, b1, b2, b3]
          refine .ret (.inr ⟨rfl, allN_false hq _ hlt, ?_⟩)
          simp -implicitDefEqProofs only [go_sem, ]
      · have b2 : decide ((c.vers.getD k ⟨0, 0⟩).high < (c.vers.getD k ⟨0, 0⟩).low) = true := decide_eq_true (by omega)
        have hq : qV2 c k = false := by unfold qV2 qV; rw [decide_eq_false a2, Bool.and_false, Bool.false_and, Bool.false_and]
        simp -implicitDefEqProofs only [go_sem, ir65_l0, eK, e6, e7, e8, d1, q0, q1, g1, w1, b1, b2]
        refine .ret (.inr ⟨rfl, allN_false hq _ hlt, ?_⟩)
        simp -implicitDefEqProofs only [go_sem, ]
    · have b1 : decide ((c.vers.getD k ⟨0, 0⟩).low < 0) = true := decide_eq_true (by omega)
      have hq : qV2 c k = false := by unfold qV2 qV; rw [decide_eq_false a1, Bool.false_and, Bool.false_and, Bool.false_and]
      simp -implicitDefEqProofs only [go_sem, ir65_l0, eK, e6, e7, e8, d1, q0, q1, g1, w1, b1]
      refine .ret (.inr ⟨rfl, allN_false hq _ hlt, ?_⟩)
      simp -implicitDefEqProofs only [go_sem, ]
  · have : k = c.vers.length := by omega
    subst this
    have d1 : decide ((c.vers.length : Int) < (c.vers.length : Int)) = false := by simp
    simp -implicitDefEqProofs only [go_sem, ir65_l0, eK, e7, e8, d1]
    exact .exit (.inl ⟨rfl, ha⟩)
theorem versB_eq (c : Conf) (h : c.vers.length ≠ 0) : allN (qV2 c) c.vers.length = versB c := by
  have key : ∀ n : Nat, allN (qV2 c) (n + 1) = (allN (qV c) (n + 1) && firstB c) := by
    intro n
    induction n with
    | zero => simp [allN, qV2]
    | succ n ih =>
      show (allN (qV2 c) (n + 1) && qV2 c (n + 1)) = ((allN (qV c) (n + 1) && qV c (n + 1)) && firstB c)
      rw [ih]
      have : qV2 c (n + 1) = qV c (n + 1) := by simp [qV2]
      rw [this]
      cases allN (qV c) (n + 1) <;> cases qV c (n + 1) <;> cases firstB c <;> rfl
  obtain ⟨n, hn⟩ : ∃ n, c.vers.length = n + 1 := ⟨c.vers.length - 1, by omega⟩
  unfold versB
  rw [hn]; exact key n
theorem FV_versions (c : Conf) (hc : Lens c) (h : c.vers.length ≠ 0) : FV PP shF 65 [.agg (eK c)] = some (dB (versB c)) := by
  rw [← versB_eq c h]
  refine FV_ok (F_ok PP65 rfl ⟨by simp [ir65], by simp⟩ ?_)
  simp -implicitDefEqProofs only [go_sem, ir65, eK]
  refine (vers_l0 c hc 0 _ ⟨?_, ?_, ?_, by omega, rfl⟩).mono ?_ <;> (try simp -implicitDefEqProofs only [go_sem, eK])
  rintro e ⟨E, H⟩ (⟨rfl, hb⟩ | ⟨rfl, hb, e4⟩)
  · simp -implicitDefEqProofs only [go_sem, hb]
  · simp only at e4
    simp -implicitDefEqProofs only [go_sem, hb, e4]
def evenB (c : Conf) : Bool := (c.reps.length : Int).tmod 2 == 0
def restB (c : Conf) : Bool := inB c.blast 1 16 && inB c.lease 1 1000 && inB c.bake 0 10000
def okB4 (c : Conf) : Bool := !evenB c && placedB c && versB c && restB c
def validN (c : Conf) : Int := if limB c = true then (if okB4 c = true then 0 else 1) else 2
theorem limB_facts {c : Conf} (h : limB c = true) : (1 ≤ c.regions ∧ c.regions ≤ 4) ∧ c.vers.length ≠ 0 := by
  unfold limB inB at h
  simp only [Bool.and_eq_true, decide_eq_true_eq] at h
  obtain ⟨⟨⟨⟨⟨⟨h1, _⟩, _⟩, h4⟩, _⟩, _⟩, _⟩ := h
  exact ⟨h1, by omega⟩
theorem FV_Valid (c : Conf) (hc : Lens c) : FV PP shF 30 [.agg (eK c)] = some (dI (validN c)) := by
  refine FV_ok (F_ok PP30 rfl ⟨by simp [ir30], by simp⟩ ?_)
  have B1 := FV_sized c
  have T1 := FV_tb c.blast 1 16
  have T2 := FV_tb c.lease 1 1000
  have T3 := FV_tb c.bake 0 10000
  unfold validN
  cases hl : limB c with
  | false =>
    rw [hl] at B1
    simp -implicitDefEqProofs only [go_sem, ir30, eK, vpS B1 rfl]
  | true =>
    rw [hl] at B1
    have B2 := FV_placed c hc (limB_facts hl).1
    have B3 := FV_versions c hc (limB_facts hl).2
    unfold okB4 restB
    have he : ((c.reps.length : Int).tmod 2 == 0) = evenB c := rfl
    generalize evenB c = ev at *
    generalize placedB c = pl at *
    generalize versB c = ve at *
    generalize inB c.blast 1 16 = r1 at *
    generalize inB c.lease 1 1000 = r2 at *
    generalize inB c.bake 0 10000 = r3 at *
    cases ev
    · cases pl
      · simp -implicitDefEqProofs only [go_sem, ir30, eK, vpS B1 rfl, he, vpS B2 rfl]
      · cases ve
        · simp -implicitDefEqProofs only [go_sem, ir30, eK, vpS B1 rfl, he, vpS B2 rfl, vpS B3 rfl]
        · cases r1
          · simp -implicitDefEqProofs only [go_sem, ir30, eK, vpS B1 rfl, he, vpS B2 rfl, vpS B3 rfl, vpS T1 rfl]
          · cases r2
            · simp -implicitDefEqProofs only [go_sem, ir30, eK, vpS B1 rfl, he, vpS B2 rfl, vpS B3 rfl, vpS T1 rfl, vpS T2 rfl]
            · cases r3
              · simp -implicitDefEqProofs only [go_sem, ir30, eK, vpS B1 rfl, he, vpS B2 rfl, vpS B3 rfl, vpS T1 rfl, vpS T2 rfl, vpS T3 rfl]
              · simp -implicitDefEqProofs only [go_sem, ir30, eK, vpS B1 rfl, he, vpS B2 rfl, vpS B3 rfl, vpS T1 rfl, vpS T2 rfl, vpS T3 rfl]
    · simp -implicitDefEqProofs only [go_sem, ir30, eK, vpS B1 rfl, he]
def K31 (c : Conf) (w : VSt) : Prop := gt .bad w.E 1 = .mp 1 1 0 0 ∧ hg w.H 1 = ⟨1, 0, true, [eK c]⟩
def L31a (c : Conf) (b : Bool) (k : Nat) (w : VSt) : Prop := K31 c w ∧ gt .bad w.E 3 = dB (b && allN (qZ c) k) ∧ gt .bad w.E 4 = dI (k : Nat) ∧ k ≤ c.zones.length
theorem rvalid_l0 (c : Conf) (hc : Lens c) (hr : 1 ≤ c.regions ∧ c.regions ≤ 4) (b : Bool) : ∀ k w, L31a c b k w → Ok (R PP shF 0 134 (.loop ir31_l0) w) (fun e w => e = .exit 0 ∧ K31 c w ∧ gt .bad w.E 3 = dB (b && allN (qZ c) c.zones.length)) := by
  refine Ok_up c.zones.length (L31a c b) fun k w hI => ?_
  obtain ⟨E, H⟩ := w
  obtain ⟨⟨e1, h1⟩, e3, e4, hk⟩ := hI
  simp only at e1 h1 e3 e4
  have hz := hc.z
  have w1 : IntKind.wrap .i64 ((k : Int) + 1) = ((k + 1 : Nat) : Int) := by rw [w64 (by omega) (by omega)]; rfl
  have w2 : IntKind.wrap .i64 (c.regions - 1) = c.regions - 1 := w64 (by omega) (by omega)
  by_cases hlt : k < c.zones.length
  · have d1 : decide ((k : Int) < (c.zones.length : Int)) = true := by simp; omega
    have q1 : (k : Int) < (c.zones.length : Int) := by omega
    have q0 : (0 : Int) ≤ (k : Int) := by omega
    have g1 := getD_at (l := c.zones) (i := k) (d := 0) hlt
    have B := FV_in (c.zones.getD k 0) 0 (c.regions - 1)
    rw [show inB (c.zones.getD k 0) 0 (c.regions - 1) = qZ c k from rfl] at B
    have hst : (b && allN (qZ c) (k + 1)) = ((b && allN (qZ c) k) && qZ c k) := (Bool.and_assoc ..).symm
    cases hx : (b && allN (qZ c) k) with
    | true =>
      rw [hx] at e3
      simp -implicitDefEqProofs only [go_sem, ir31_l0, eK, e1, h1, e3, e4, d1, q0, q1, g1, w1, w2, vpS B rfl]
      refine .next hlt ⟨⟨?_, ?_⟩, ?_, ?_, by omega⟩ <;> simp -implicitDefEqProofs only [go_sem, e1, h1, w1, eK, hst, hx]
    | false =>
      rw [hx] at e3
      simp -implicitDefEqProofs only [go_sem, ir31_l0, eK, e1, h1, e3, e4, d1, w1]
      refine .next hlt ⟨⟨?_, ?_⟩, ?_, ?_, by omega⟩ <;> simp -implicitDefEqProofs only [go_sem, e1, h1, w1, eK, hst, hx]
  · have : k = c.zones.length := by omega
    subst this
    have d1 : decide ((c.zones.length : Int) < (c.zones.length : Int)) = false := by simp
    simp -implicitDefEqProofs only [go_sem, ir31_l0, eK, e1, h1, e4, d1]
    refine .exit ⟨rfl, ⟨?_, ?_⟩, ?_⟩ <;> simp -implicitDefEqProofs only [go_sem, e1, h1, e3, eK]
def L31b (c : Conf) (b : Bool) (k : Nat) (w : VSt) : Prop := K31 c w ∧ gt .bad w.E 3 = dB (b && allN (qC c) k) ∧ gt .bad w.E 5 = dI (k : Nat) ∧ k ≤ c.cells.length
theorem rvalid_l1 (c : Conf) (hc : Lens c) (b : Bool) : ∀ k w, L31b c b k w → Ok (R PP shF 0 134 (.loop ir31_l1) w) (fun e w => e = .exit 2 ∧ K31 c w ∧ gt .bad w.E 3 = dB (b && allN (qC c) c.cells.length)) := by
  refine Ok_up c.cells.length (L31b c b) fun k w hI => ?_
  obtain ⟨E, H⟩ := w
  obtain ⟨⟨e1, h1⟩, e3, e5, hk⟩ := hI
  simp only at e1 h1 e3 e5
  have hz := hc.z
  have hcl := hc.c
  have w1 : IntKind.wrap .i64 ((k : Int) + 1) = ((k + 1 : Nat) : Int) := by rw [w64 (by omega) (by omega)]; rfl
  have w2 : IntKind.wrap .i64 ((c.zones.length : Int) - 1) = (c.zones.length : Int) - 1 := w64 (by omega) (by omega)
  by_cases hlt : k < c.cells.length
  · have d1 : decide ((k : Int) < (c.cells.length : Int)) = true := by simp; omega
    have q1 : (k : Int) < (c.cells.length : Int) := by omega
    have q0 : (0 : Int) ≤ (k : Int) := by omega
    have g1 := getD_at (l := c.cells) (i := k) (d := ⟨0, 0⟩) hlt
    have B1 := FV_in (c.cells.getD k ⟨0, 0⟩).zone 0 ((c.zones.length : Int) - 1)
    have B2 := FV_in (c.cells.getD k ⟨0, 0⟩).cap 1 4194304
    have hq : qC c k = (inB (c.cells.getD k ⟨0, 0⟩).zone 0 ((c.zones.length : Int) - 1) && inB (c.cells.getD k ⟨0, 0⟩).cap 1 4194304) := rfl
    have hst : (b && allN (qC c) (k + 1)) = ((b && allN (qC c) k) && qC c k) := (Bool.and_assoc ..).symm
    rw [hq] at hst
    generalize inB (c.cells.getD k ⟨0, 0⟩).zone 0 ((c.zones.length : Int) - 1) = x1 at *
    generalize inB (c.cells.getD k ⟨0, 0⟩).cap 1 4194304 = x2 at *
    cases hx : (b && allN (qC c) k) with
    | true =>
      rw [hx] at e3
      cases x1
      · simp -implicitDefEqProofs only [go_sem, ir31_l1, eK, e1, h1, e3, e5, d1, q0, q1, g1, w1, w2, vpS B1 rfl, vpS B2 rfl]
        refine .next hlt ⟨⟨?_, ?_⟩, ?_, ?_, by omega⟩ <;> simp -implicitDefEqProofs only [go_sem, e1, h1, w1, eK, hst, hx]
      · simp -implicitDefEqProofs only [go_sem, ir31_l1, eK, e1, h1, e3, e5, d1, q0, q1, g1, w1, w2, vpS B1 rfl, vpS B2 rfl]
        refine .next hlt ⟨⟨?_, ?_⟩, ?_, ?_, by omega⟩ <;> simp -implicitDefEqProofs only [go_sem, e1, h1, w1, eK, hst, hx]
    | false =>
      rw [hx] at e3
      simp -implicitDefEqProofs only [go_sem, ir31_l1, eK, e1, h1, e3, e5, d1, w1]
      refine .next hlt ⟨⟨?_, ?_⟩, ?_, ?_, by omega⟩ <;> simp -implicitDefEqProofs only [go_sem, e1, h1, w1, eK, hst, hx]
  · have : k = c.cells.length := by omega
    subst this
    have d1 : decide ((c.cells.length : Int) < (c.cells.length : Int)) = false := by simp
    simp -implicitDefEqProofs only [go_sem, ir31_l1, eK, e1, h1, e5, d1]
    refine .exit ⟨rfl, ⟨?_, ?_⟩, ?_⟩ <;> simp -implicitDefEqProofs only [go_sem, e1, h1, e3, eK]
def L31c (c : Conf) (b : Bool) (k : Nat) (w : VSt) : Prop := K31 c w ∧ gt .bad w.E 3 = dB (b && allN (qV c) k) ∧ gt .bad w.E 6 = dI (k : Nat) ∧ k ≤ c.vers.length
theorem rvalid_l2 (c : Conf) (hc : Lens c) (b : Bool) : ∀ k w, L31c c b k w → Ok (R PP shF 0 134 (.loop ir31_l2) w) (fun e w => e = .exit 4 ∧ gt .bad w.E 3 = dB (b && allN (qV c) c.vers.length)) := by
  refine Ok_up c.vers.length (L31c c b) fun k w hI => ?_
  obtain ⟨E, H⟩ := w
  obtain ⟨⟨e1, h1⟩, e3, e6, hk⟩ := hI
  simp only at e1 h1 e3 e6
  have hv := hc.v
  have w1 : IntKind.wrap .i64 ((k : Int) + 1) = ((k + 1 : Nat) : Int) := by rw [w64 (by omega) (by omega)]; rfl
  by_cases hlt : k < c.vers.length
  · have d1 : decide ((k : Int) < (c.vers.length : Int)) = true := by simp; omega
    have q1 : (k : Int) < (c.vers.length : Int) := by omega
    have q0 : (0 : Int) ≤ (k : Int) := by omega
    have g1 := getD_at (l := c.vers) (i := k) (d := ⟨0, 0⟩) hlt
    have B1 := FV_in (c.vers.getD k ⟨0, 0⟩).low 0 (c.vers.getD k ⟨0, 0⟩).high
    have hq : qV c k = (inB (c.vers.getD k ⟨0, 0⟩).low 0 (c.vers.getD k ⟨0, 0⟩).high && decide ((c.vers.getD k ⟨0, 0⟩).high ≤ 30)) := rfl
    have hst : (b && allN (qV c) (k + 1)) = ((b && allN (qV c) k) && qV c k) := (Bool.and_assoc ..).symm
    rw [hq] at hst
    generalize inB (c.vers.getD k ⟨0, 0⟩).low 0 (c.vers.getD k ⟨0, 0⟩).high = x1 at *
    cases hx : (b && allN (qV c) k) with
    | true =>
      rw [hx] at e3
      cases x1
      · simp -implicitDefEqProofs only [go_sem, ir31_l2, eK, e1, h1, e3, e6, d1, q0, q1, g1, w1, vpS B1 rfl]
        refine .next hlt ⟨⟨?_, ?_⟩, ?_, ?_, by omega⟩ <;> simp -implicitDefEqProofs only [go_sem, e1, h1, w1, eK, hst, hx]
      · simp -implicitDefEqProofs only [go_sem, ir31_l2, eK, e1, h1, e3, e6, d1, q0, q1, g1, w1, vpS B1 rfl]
        refine .next hlt ⟨⟨?_, ?_⟩, ?_, ?_, by omega⟩ <;> simp -implicitDefEqProofs only [go_sem, e1, h1, w1, eK, hst, hx]
    | false =>
      rw [hx] at e3
      simp -implicitDefEqProofs only [go_sem, ir31_l2, eK, e1, h1, e3, e6, d1, w1]
      refine .next hlt ⟨⟨?_, ?_⟩, ?_, ?_, by omega⟩ <;> simp -implicitDefEqProofs only [go_sem, e1, h1, w1, eK, hst, hx]
  · have : k = c.vers.length := by omega
    subst this
    have d1 : decide ((c.vers.length : Int) < (c.vers.length : Int)) = false := by simp
    simp -implicitDefEqProofs only [go_sem, ir31_l2, eK, e1, h1, e6, d1]
    refine .exit ⟨rfl, ?_⟩
    simp -implicitDefEqProofs only [go_sem, e3]
def preB (c : Conf) : Bool := !evenB c && zonesB c c.reps && zonesB c c.obs && inB c.blast 1 16 && inB c.lease 1 1000 && inB c.bake 0 10000 && firstB c
theorem pre_ok (c : Conf) : (preB c && allN (qZ c) c.zones.length && allN (qC c) c.cells.length && allN (qV c) c.vers.length) = okB4 c := by
  unfold preB okB4 placedB versB restB
  ac_rfl
theorem FV_rValid (c : Conf) (hc : Lens c) : FV PP shF 31 [.agg (eK c)] = some (dI (validN c)) := by
  refine FV_ok (F_ok PP31 rfl ⟨by simp [ir31], by simp⟩ ?_)
  have B1 := FV_limits c
  unfold validN
  cases hl : limB c with
  | false =>
    rw [hl] at B1
    simp -implicitDefEqProofs only [go_sem, ir31, eK, vpS B1 rfl]
  | true =>
    rw [hl] at B1
    obtain ⟨hr, hv⟩ := limB_facts hl
    have Z1 := FV_rzones c hc.z c.reps hc.p
    have Z2 := FV_rzones c hc.z c.obs hc.o
    have T1 := FV_in c.blast 1 16
    have T2 := FV_in c.lease 1 1000
    have T3 := FV_in c.bake 0 10000
    have he : ((c.reps.length : Int).tmod 2 == 1) = !evenB c := by
      unfold evenB
      rw [Int.tmod_eq_emod_of_nonneg (by omega), Bool.eq_iff_iff]
      simp only [beq_iff_eq, Bool.not_eq_true', beq_eq_false_iff_ne, ne_eq]
      omega
    have g0 := getD_at (l := c.vers) (i := 0) (d := ⟨0, 0⟩) (by omega)
    have q0 : (0 : Int) < (c.vers.length : Int) := by omega
    have hf : ((c.vers.getD 0 ⟨0, 0⟩).low == 0) = firstB c := rfl
    have hpre : preB c = (!evenB c && zonesB c c.reps && zonesB c c.obs && inB c.blast 1 16 && inB c.lease 1 1000 && inB c.bake 0 10000 && firstB c) := rfl
    rw [← pre_ok c]
    generalize preB c = pb at *
    generalize evenB c = ev at *
    generalize zonesB c c.reps = z1 at *
    generalize zonesB c c.obs = z2 at *
    generalize inB c.blast 1 16 = r1 at *
    generalize inB c.lease 1 1000 = r2 at *
    generalize inB c.bake 0 10000 = r3 at *
    generalize firstB c = fb at *
    cases ev with
    | true =>
      have hpb : pb = false := by rw [hpre]; rfl
      simp -implicitDefEqProofs only [go_sem, ir31, eK, vpS B1 rfl, he, g0, q0, hf, Bool.not_true]
      refine (rvalid_l0 c hc hr pb 0 _ (by refine ⟨⟨?_, ?_⟩, ?_, ?_, by omega⟩ <;> simp -implicitDefEqProofs only [go_sem, eK, allN, hpb])).mono ?_
      rintro e ⟨E, H⟩ ⟨rfl, ⟨e1, h1⟩, e3⟩
      simp only at e1 h1 e3
      simp -implicitDefEqProofs only [go_sem, e1, h1, e3]
      refine (rvalid_l1 c hc (pb && allN (qZ c) c.zones.length) 0 _ (by refine ⟨⟨?_, ?_⟩, ?_, ?_, by omega⟩ <;> simp -implicitDefEqProofs only [go_sem, e1, h1, e3, allN])).mono ?_
      rintro e ⟨E, H⟩ ⟨rfl, ⟨e1, h1⟩, e3⟩
      simp only at e1 h1 e3
      simp -implicitDefEqProofs only [go_sem, e1, h1, e3]
      refine (rvalid_l2 c hc (pb && allN (qZ c) c.zones.length && allN (qC c) c.cells.length) 0 _ (by refine ⟨⟨?_, ?_⟩, ?_, ?_, by omega⟩ <;> simp -implicitDefEqProofs only [go_sem, e1, h1, e3, allN])).mono ?_
      rintro e ⟨E, H⟩ ⟨rfl, e3⟩
      simp only at e3
      cases hx : (pb && allN (qZ c) c.zones.length && allN (qC c) c.cells.length && allN (qV c) c.vers.length) <;> (rw [hx] at e3; simp -implicitDefEqProofs only [go_sem, e3])
    | false =>
      cases z1 with
      | false =>
        have hpb : pb = false := by rw [hpre]; simp
        simp -implicitDefEqProofs only [go_sem, ir31, eK, vpS B1 rfl, he, g0, q0, hf, Bool.not_false, vpS Z1 rfl]
        refine (rvalid_l0 c hc hr pb 0 _ (by refine ⟨⟨?_, ?_⟩, ?_, ?_, by omega⟩ <;> simp -implicitDefEqProofs only [go_sem, eK, allN, hpb])).mono ?_
        rintro e ⟨E, H⟩ ⟨rfl, ⟨e1, h1⟩, e3⟩
        simp only at e1 h1 e3
        simp -implicitDefEqProofs only [go_sem, e1, h1, e3]
        refine (rvalid_l1 c hc (pb && allN (qZ c) c.zones.length) 0 _ (by refine ⟨⟨?_, ?_⟩, ?_, ?_, by omega⟩ <;> simp -implicitDefEqProofs only [go_sem, e1, h1, e3, allN])).mono ?_
        rintro e ⟨E, H⟩ ⟨rfl, ⟨e1, h1⟩, e3⟩
        simp only at e1 h1 e3
        simp -implicitDefEqProofs only [go_sem, e1, h1, e3]
        refine (rvalid_l2 c hc (pb && allN (qZ c) c.zones.length && allN (qC c) c.cells.length) 0 _ (by refine ⟨⟨?_, ?_⟩, ?_, ?_, by omega⟩ <;> simp -implicitDefEqProofs only [go_sem, e1, h1, e3, allN])).mono ?_
        rintro e ⟨E, H⟩ ⟨rfl, e3⟩
        simp only at e3
        cases hx : (pb && allN (qZ c) c.zones.length && allN (qC c) c.cells.length && allN (qV c) c.vers.length) <;> (rw [hx] at e3; simp -implicitDefEqProofs only [go_sem, e3])
      | true =>
        cases z2 with
        | false =>
          have hpb : pb = false := by rw [hpre]; simp
          simp -implicitDefEqProofs only [go_sem, ir31, eK, vpS B1 rfl, he, g0, q0, hf, Bool.not_false, vpS Z1 rfl, vpS Z2 rfl]
          refine (rvalid_l0 c hc hr pb 0 _ (by refine ⟨⟨?_, ?_⟩, ?_, ?_, by omega⟩ <;> simp -implicitDefEqProofs only [go_sem, eK, allN, hpb])).mono ?_
          rintro e ⟨E, H⟩ ⟨rfl, ⟨e1, h1⟩, e3⟩
          simp only at e1 h1 e3
          simp -implicitDefEqProofs only [go_sem, e1, h1, e3]
          refine (rvalid_l1 c hc (pb && allN (qZ c) c.zones.length) 0 _ (by refine ⟨⟨?_, ?_⟩, ?_, ?_, by omega⟩ <;> simp -implicitDefEqProofs only [go_sem, e1, h1, e3, allN])).mono ?_
          rintro e ⟨E, H⟩ ⟨rfl, ⟨e1, h1⟩, e3⟩
          simp only at e1 h1 e3
          simp -implicitDefEqProofs only [go_sem, e1, h1, e3]
          refine (rvalid_l2 c hc (pb && allN (qZ c) c.zones.length && allN (qC c) c.cells.length) 0 _ (by refine ⟨⟨?_, ?_⟩, ?_, ?_, by omega⟩ <;> simp -implicitDefEqProofs only [go_sem, e1, h1, e3, allN])).mono ?_
          rintro e ⟨E, H⟩ ⟨rfl, e3⟩
          simp only at e3
          cases hx : (pb && allN (qZ c) c.zones.length && allN (qC c) c.cells.length && allN (qV c) c.vers.length) <;> (rw [hx] at e3; simp -implicitDefEqProofs only [go_sem, e3])
        | true =>
          cases r1 with
          | false =>
            have hpb : pb = false := by rw [hpre]; simp
            simp -implicitDefEqProofs only [go_sem, ir31, eK, vpS B1 rfl, he, g0, q0, hf, Bool.not_false, vpS Z1 rfl, vpS Z2 rfl, vpS T1 rfl]
            refine (rvalid_l0 c hc hr pb 0 _ (by refine ⟨⟨?_, ?_⟩, ?_, ?_, by omega⟩ <;> simp -implicitDefEqProofs only [go_sem, eK, allN, hpb])).mono ?_
            rintro e ⟨E, H⟩ ⟨rfl, ⟨e1, h1⟩, e3⟩
            simp only at e1 h1 e3
            simp -implicitDefEqProofs only [go_sem, e1, h1, e3]
            refine (rvalid_l1 c hc (pb && allN (qZ c) c.zones.length) 0 _ (by refine ⟨⟨?_, ?_⟩, ?_, ?_, by omega⟩ <;> simp -implicitDefEqProofs only [go_sem, e1, h1, e3, allN])).mono ?_
            rintro e ⟨E, H⟩ ⟨rfl, ⟨e1, h1⟩, e3⟩
            simp only at e1 h1 e3
            simp -implicitDefEqProofs only [go_sem, e1, h1, e3]
            refine (rvalid_l2 c hc (pb && allN (qZ c) c.zones.length && allN (qC c) c.cells.length) 0 _ (by refine ⟨⟨?_, ?_⟩, ?_, ?_, by omega⟩ <;> simp -implicitDefEqProofs only [go_sem, e1, h1, e3, allN])).mono ?_
            rintro e ⟨E, H⟩ ⟨rfl, e3⟩
            simp only at e3
            cases hx : (pb && allN (qZ c) c.zones.length && allN (qC c) c.cells.length && allN (qV c) c.vers.length) <;> (rw [hx] at e3; simp -implicitDefEqProofs only [go_sem, e3])
          | true =>
            cases r2 with
            | false =>
              have hpb : pb = false := by rw [hpre]; simp
              simp -implicitDefEqProofs only [go_sem, ir31, eK, vpS B1 rfl, he, g0, q0, hf, Bool.not_false, vpS Z1 rfl, vpS Z2 rfl, vpS T1 rfl, vpS T2 rfl]
              refine (rvalid_l0 c hc hr pb 0 _ (by refine ⟨⟨?_, ?_⟩, ?_, ?_, by omega⟩ <;> simp -implicitDefEqProofs only [go_sem, eK, allN, hpb])).mono ?_
              rintro e ⟨E, H⟩ ⟨rfl, ⟨e1, h1⟩, e3⟩
              simp only at e1 h1 e3
              simp -implicitDefEqProofs only [go_sem, e1, h1, e3]
              refine (rvalid_l1 c hc (pb && allN (qZ c) c.zones.length) 0 _ (by refine ⟨⟨?_, ?_⟩, ?_, ?_, by omega⟩ <;> simp -implicitDefEqProofs only [go_sem, e1, h1, e3, allN])).mono ?_
              rintro e ⟨E, H⟩ ⟨rfl, ⟨e1, h1⟩, e3⟩
              simp only at e1 h1 e3
              simp -implicitDefEqProofs only [go_sem, e1, h1, e3]
              refine (rvalid_l2 c hc (pb && allN (qZ c) c.zones.length && allN (qC c) c.cells.length) 0 _ (by refine ⟨⟨?_, ?_⟩, ?_, ?_, by omega⟩ <;> simp -implicitDefEqProofs only [go_sem, e1, h1, e3, allN])).mono ?_
              rintro e ⟨E, H⟩ ⟨rfl, e3⟩
              simp only at e3
              cases hx : (pb && allN (qZ c) c.zones.length && allN (qC c) c.cells.length && allN (qV c) c.vers.length) <;> (rw [hx] at e3; simp -implicitDefEqProofs only [go_sem, e3])
            | true =>
              cases r3 with
              | false =>
                have hpb : pb = false := by rw [hpre]; simp
                simp -implicitDefEqProofs only [go_sem, ir31, eK, vpS B1 rfl, he, g0, q0, hf, Bool.not_false, vpS Z1 rfl, vpS Z2 rfl, vpS T1 rfl, vpS T2 rfl, vpS T3 rfl]
                refine (rvalid_l0 c hc hr pb 0 _ (by refine ⟨⟨?_, ?_⟩, ?_, ?_, by omega⟩ <;> simp -implicitDefEqProofs only [go_sem, eK, allN, hpb])).mono ?_
                rintro e ⟨E, H⟩ ⟨rfl, ⟨e1, h1⟩, e3⟩
                simp only at e1 h1 e3
                simp -implicitDefEqProofs only [go_sem, e1, h1, e3]
                refine (rvalid_l1 c hc (pb && allN (qZ c) c.zones.length) 0 _ (by refine ⟨⟨?_, ?_⟩, ?_, ?_, by omega⟩ <;> simp -implicitDefEqProofs only [go_sem, e1, h1, e3, allN])).mono ?_
                rintro e ⟨E, H⟩ ⟨rfl, ⟨e1, h1⟩, e3⟩
                simp only at e1 h1 e3
                simp -implicitDefEqProofs only [go_sem, e1, h1, e3]
                refine (rvalid_l2 c hc (pb && allN (qZ c) c.zones.length && allN (qC c) c.cells.length) 0 _ (by refine ⟨⟨?_, ?_⟩, ?_, ?_, by omega⟩ <;> simp -implicitDefEqProofs only [go_sem, e1, h1, e3, allN])).mono ?_
                rintro e ⟨E, H⟩ ⟨rfl, e3⟩
                simp only at e3
                cases hx : (pb && allN (qZ c) c.zones.length && allN (qC c) c.cells.length && allN (qV c) c.vers.length) <;> (rw [hx] at e3; simp -implicitDefEqProofs only [go_sem, e3])
              | true =>
                have hpb : pb = fb := by rw [hpre]; simp
                simp -implicitDefEqProofs only [go_sem, ir31, eK, vpS B1 rfl, he, g0, q0, hf, Bool.not_false, vpS Z1 rfl, vpS Z2 rfl, vpS T1 rfl, vpS T2 rfl, vpS T3 rfl]
                refine (rvalid_l0 c hc hr pb 0 _ (by refine ⟨⟨?_, ?_⟩, ?_, ?_, by omega⟩ <;> simp -implicitDefEqProofs only [go_sem, eK, allN, hpb])).mono ?_
                rintro e ⟨E, H⟩ ⟨rfl, ⟨e1, h1⟩, e3⟩
                simp only at e1 h1 e3
                simp -implicitDefEqProofs only [go_sem, e1, h1, e3]
                refine (rvalid_l1 c hc (pb && allN (qZ c) c.zones.length) 0 _ (by refine ⟨⟨?_, ?_⟩, ?_, ?_, by omega⟩ <;> simp -implicitDefEqProofs only [go_sem, e1, h1, e3, allN])).mono ?_
                rintro e ⟨E, H⟩ ⟨rfl, ⟨e1, h1⟩, e3⟩
                simp only at e1 h1 e3
                simp -implicitDefEqProofs only [go_sem, e1, h1, e3]
                refine (rvalid_l2 c hc (pb && allN (qZ c) c.zones.length && allN (qC c) c.cells.length) 0 _ (by refine ⟨⟨?_, ?_⟩, ?_, ?_, by omega⟩ <;> simp -implicitDefEqProofs only [go_sem, e1, h1, e3, allN])).mono ?_
                rintro e ⟨E, H⟩ ⟨rfl, e3⟩
                simp only at e3
                cases hx : (pb && allN (qZ c) c.zones.length && allN (qC c) c.cells.length && allN (qV c) c.vers.length) <;> (rw [hx] at e3; simp -implicitDefEqProofs only [go_sem, e3])
def rightB (W : Int) (t : Ten) : Bool := inB t.load 1 65536 && inB t.shadow 0 t.load && inB t.prio 0 9 && inB t.lag (-1) 1000 && (decide (1 ≤ t.allowed) && decide (t.allowed < W)) && inB t.group 0 32
def wid (c : Conf) : Int := 2 ^ c.regions.toNat
theorem wid_eq {R : Int} (h : 1 ≤ R ∧ R ≤ 4) : IntKind.wrap .i64 (1 * 2 ^ min R.toNat 64) = 2 ^ R.toNat ∧ (2 : Int) ^ R.toNat ≤ 16 ∧ (2 : Int) ≤ 2 ^ R.toNat := by
  obtain ⟨h1, h2⟩ := h
  obtain rfl | rfl | rfl | rfl : R = 1 ∨ R = 2 ∨ R = 3 ∨ R = 4 := by omega
  all_goals exact ⟨rfl, by decide, by decide⟩
theorem FV_right (c : Conf) (hr : 1 ≤ c.regions ∧ c.regions ≤ 4) (t : Ten) : FV PP shF 114 [.agg (eK c), .agg (eT t)] = some (dB (rightB (wid c) t)) := by
  obtain ⟨hs, hw1, hw2⟩ := wid_eq hr
  have nr : ¬ c.regions < 0 := by omega
  have w1 : IntKind.wrap .i64 (wid c - 1) = wid c - 1 := by unfold wid; exact w64 (by omega) (by omega)
  rw [show (2 : Int) ^ c.regions.toNat = wid c from rfl] at hs hw1 hw2
  have B1 := FV_between t.load 1 65536
  have B2 := FV_between t.shadow 0 t.load
  have B3 := FV_between t.prio 0 9
  have B4 := FV_between t.lag (-1) 1000
  have B5 := FV_between t.allowed 1 (wid c - 1)
  have B6 := FV_between t.group 0 32
  have h5 : (decide (1 ≤ t.allowed) && decide (t.allowed ≤ wid c - 1)) = (decide (1 ≤ t.allowed) && decide (t.allowed < wid c)) := by
    congr 1
    rw [Bool.eq_iff_iff]
    simp only [decide_eq_true_eq]
    omega
  rw [h5] at B5
  refine FV_ok (F_ok PP114 rfl ⟨by simp [ir114], by simp⟩ ?_)
  unfold rightB inB
  generalize (decide (1 ≤ t.load) && decide (t.load ≤ 65536)) = r1 at *
  generalize (decide (0 ≤ t.shadow) && decide (t.shadow ≤ t.load)) = r2 at *
  generalize (decide (0 ≤ t.prio) && decide (t.prio ≤ 9)) = r3 at *
  generalize (decide (-1 ≤ t.lag) && decide (t.lag ≤ 1000)) = r4 at *
  generalize (decide (1 ≤ t.allowed) && decide (t.allowed < wid c)) = r5 at *
  generalize (decide (0 ≤ t.group) && decide (t.group ≤ 32)) = r6 at *
  cases r1
  · simp -implicitDefEqProofs only [go_sem, ir114, eK, nr, hs, w1, vpS B1 rfl]
  cases r2
  · simp -implicitDefEqProofs only [go_sem, ir114, eK, nr, hs, w1, vpS B1 rfl, vpS B2 rfl]
  cases r3
  · simp -implicitDefEqProofs only [go_sem, ir114, eK, nr, hs, w1, vpS B1 rfl, vpS B2 rfl, vpS B3 rfl]
  cases r4
  · simp -implicitDefEqProofs only [go_sem, ir114, eK, nr, hs, w1, vpS B1 rfl, vpS B2 rfl, vpS B3 rfl, vpS B4 rfl]
  cases r5
  · simp -implicitDefEqProofs only [go_sem, ir114, eK, nr, hs, w1, vpS B1 rfl, vpS B2 rfl, vpS B3 rfl, vpS B4 rfl, vpS B5 rfl]
  cases r6
  · simp -implicitDefEqProofs only [go_sem, ir114, eK, nr, hs, w1, vpS B1 rfl, vpS B2 rfl, vpS B3 rfl, vpS B4 rfl, vpS B5 rfl, vpS B6 rfl]
  simp -implicitDefEqProofs only [go_sem, ir114, eK, nr, hs, w1, vpS B1 rfl, vpS B2 rfl, vpS B3 rfl, vpS B4 rfl, vpS B5 rfl, vpS B6 rfl]
theorem FV_declared (c : Conf) (hr : 1 ≤ c.regions ∧ c.regions ≤ 4) (t : Ten) : FV PP shF 115 [.agg (eK c), .agg (eT t)] = some (dB (rightB (wid c) t)) := by
  obtain ⟨hs, hw1, hw2⟩ := wid_eq hr
  have nr : ¬ c.regions < 0 := by omega
  have cu : IntKind.wrap .u64 c.regions = c.regions := wu64 (by omega) (by omega)
  rw [show (2 : Int) ^ c.regions.toNat = wid c from rfl] at hs hw1 hw2
  generalize wid c = W at *
  refine FV_ok (F_ok PP115 rfl ⟨by simp [ir115], by simp⟩ ?_)
  by_cases b1 : 1 ≤ t.load
  · by_cases b2 : t.load ≤ 65536
    · by_cases b3 : 0 ≤ t.shadow
      · by_cases b4 : t.shadow ≤ t.load
        · by_cases b5 : 0 ≤ t.prio
          · by_cases b6 : t.prio ≤ 9
            · by_cases b7 : -1 ≤ t.lag
              · by_cases b8 : t.lag ≤ 1000
                · by_cases b9 : 1 ≤ t.allowed
                  · by_cases b10 : t.allowed < W
                    · by_cases b11 : 0 ≤ t.group
                      · simp -implicitDefEqProofs only [go_sem, ir115, eK, cu, nr, hs, rightB, inB, b1, b2, b3, b4, b5, b6, b7, b8, b9, b10, b11]
                      · simp -implicitDefEqProofs only [go_sem, ir115, eK, cu, nr, hs, rightB, inB, b1, b2, b3, b4, b5, b6, b7, b8, b9, b10, b11]
                    · simp -implicitDefEqProofs only [go_sem, ir115, eK, cu, nr, hs, rightB, inB, b1, b2, b3, b4, b5, b6, b7, b8, b9, b10]
                  · simp -implicitDefEqProofs only [go_sem, ir115, eK, cu, nr, hs, rightB, inB, b1, b2, b3, b4, b5, b6, b7, b8, b9]
                · simp -implicitDefEqProofs only [go_sem, ir115, eK, cu, nr, hs, rightB, inB, b1, b2, b3, b4, b5, b6, b7, b8]
              · simp -implicitDefEqProofs only [go_sem, ir115, eK, cu, nr, hs, rightB, inB, b1, b2, b3, b4, b5, b6, b7]
            · simp -implicitDefEqProofs only [go_sem, ir115, eK, cu, nr, hs, rightB, inB, b1, b2, b3, b4, b5, b6]
          · simp -implicitDefEqProofs only [go_sem, ir115, eK, cu, nr, hs, rightB, inB, b1, b2, b3, b4, b5]
        · simp -implicitDefEqProofs only [go_sem, ir115, eK, cu, nr, hs, rightB, inB, b1, b2, b3, b4]
      · simp -implicitDefEqProofs only [go_sem, ir115, eK, cu, nr, hs, rightB, inB, b1, b2, b3]
    · simp -implicitDefEqProofs only [go_sem, ir115, eK, cu, nr, hs, rightB, inB, b1, b2]
  · simp -implicitDefEqProofs only [go_sem, ir115, eK, cu, nr, hs, rightB, inB, b1]
def qT (c : Conf) (i : Nat) : Bool := rightB (wid c) (c.tens.getD i ⟨0, 0, 0, 0, 0, 0, false⟩)
def validT (c : Conf) : Int := if validN c = 0 then (if allN (qT c) c.tens.length = true then 0 else 1) else validN c
theorem validN_lim {c : Conf} (h : validN c = 0) : limB c = true := by
  unfold validN at h
  cases hl : limB c with
  | true => rfl
  | false => rw [hl] at h; simp at h
def L103 (c : Conf) (k : Nat) (w : VSt) : Prop := gt .bad w.E 1 = .mp 1 1 0 0 ∧ hg w.H 1 = ⟨1, 0, true, [eK c]⟩ ∧ gt .bad w.E 12 = .sl (c.tens.map eT) ∧ gt .bad w.E 13 = dI (c.tens.length : Nat) ∧ gt .bad w.E 14 = dI (k : Nat) ∧ k ≤ c.tens.length ∧ allN (qT c) k = true
theorem tvalid_l0 (c : Conf) (hc : Lens c) (hr : 1 ≤ c.regions ∧ c.regions ≤ 4) : ∀ k w, L103 c k w → Ok (R PP shF 0 23 (.loop ir103_l0) w) (fun e w => (e = .exit 0 ∧ allN (qT c) c.tens.length = true) ∨ (e = .ret ∧ allN (qT c) c.tens.length = false ∧ gt .bad w.E 2 = dI 1)) := by
  refine Ok_up c.tens.length (L103 c) fun k w hI => ?_
  obtain ⟨E, H⟩ := w
  obtain ⟨e1, h1, e12, e13, e14, hk, ha⟩ := hI
  simp only at e1 h1 e12 e13 e14
  have ht := hc.t
  have w1 : IntKind.wrap .i64 ((k : Int) + 1) = ((k + 1 : Nat) : Int) := by rw [w64 (by omega) (by omega)]; rfl
  by_cases hlt : k < c.tens.length
  · have d1 : decide ((k : Int) < (c.tens.length : Int)) = true := by simp; omega
    have q1 : (k : Int) < (c.tens.length : Int) := by omega
    have q0 : (0 : Int) ≤ (k : Int) := by omega
    have g1 := getD_at (l := c.tens) (i := k) (d := ⟨0, 0, 0, 0, 0, 0, false⟩) hlt
    have B := FV_right c hr (c.tens.getD k ⟨0, 0, 0, 0, 0, 0, false⟩)
    rw [show rightB (wid c) (c.tens.getD k ⟨0, 0, 0, 0, 0, 0, false⟩) = qT c k from rfl] at B
    cases hb : qT c k with
    | true =>
      rw [hb] at B
      simp -implicitDefEqProofs only [go_sem, ir103_l0, eK, eT, e1, h1, e12, e13, e14, d1, q0, q1, g1, w1, vpS B rfl]
      refine .next hlt ⟨?_, ?_, ?_, ?_, ?_, by omega, allN_next ha hb⟩ <;> simp -implicitDefEqProofs only [go_sem, e1, h1, e12, e13, w1, eK]
    | false =>
      rw [hb] at B
      simp -implicitDefEqProofs only [go_sem, ir103_l0, eK, eT, e1, h1, e12, e13, e14, d1, q0, q1, g1, w1, vpS B rfl]
      refine .ret (.inr ⟨rfl, allN_false hb _ hlt, ?_⟩)
      simp -implicitDefEqProofs only [go_sem, ]
  · have : k = c.tens.length := by omega
    subst this
    have d1 : decide ((c.tens.length : Int) < (c.tens.length : Int)) = false := by simp
    simp -implicitDefEqProofs only [go_sem, ir103_l0, eK, e13, e14, d1]
    exact .exit (.inl ⟨rfl, ha⟩)
theorem FV_tValid (c : Conf) (hc : Lens c) : FV PP shF 103 [.agg (eK c)] = some (dI (validT c)) := by
  have V := FV_Valid c hc
  refine FV_ok (F_ok PP103 rfl ⟨by simp [ir103], by simp⟩ ?_)
  unfold validT
  by_cases h0 : validN c = 0
  · obtain ⟨hr, _⟩ := limB_facts (validN_lim h0)
    rw [h0] at V
    have n0 : ((0 : Int) != 0) = false := rfl
    simp -implicitDefEqProofs only [go_sem, ir103, eK, vpS V rfl, h0, n0]
    refine (tvalid_l0 c hc hr 0 _ ⟨?_, ?_, ?_, ?_, ?_, by omega, rfl⟩).mono ?_ <;> (try simp -implicitDefEqProofs only [go_sem, eK])
    rintro e ⟨E, H⟩ (⟨rfl, hb⟩ | ⟨rfl, hb, e2⟩)
    · simp -implicitDefEqProofs only [go_sem, hb]
    · simp only at e2
      simp -implicitDefEqProofs only [go_sem, hb, e2]
  · have d1 : (validN c != 0) = true := by simp [h0]
    simp -implicitDefEqProofs only [go_sem, ir103, eK, vpS V rfl, d1, h0]
def L104 (c : Conf) (k : Nat) (w : VSt) : Prop := gt .bad w.E 1 = .mp 1 1 0 0 ∧ hg w.H 1 = ⟨1, 0, true, [eK c]⟩ ∧ gt .bad w.E 4 = dI (k : Nat) ∧ k ≤ c.tens.length ∧ allN (qT c) k = true
theorem rtvalid_l0 (c : Conf) (hc : Lens c) (hr : 1 ≤ c.regions ∧ c.regions ≤ 4) : ∀ k w, L104 c k w → Ok (R PP shF 0 25 (.loop ir104_l0) w) (fun e w => (e = .exit 0 ∧ allN (qT c) c.tens.length = true) ∨ (e = .ret ∧ allN (qT c) c.tens.length = false ∧ gt .bad w.E 2 = dI 1)) := by
  refine Ok_up c.tens.length (L104 c) fun k w hI => ?_
  obtain ⟨E, H⟩ := w
  obtain ⟨e1, h1, e4, hk, ha⟩ := hI
  simp only at e1 h1 e4
  have ht := hc.t
  have w1 : IntKind.wrap .i64 ((k : Int) + 1) = ((k + 1 : Nat) : Int) := by rw [w64 (by omega) (by omega)]; rfl
  by_cases hlt : k < c.tens.length
  · have d1 : decide ((k : Int) < (c.tens.length : Int)) = true := by simp; omega
    have q1 : (k : Int) < (c.tens.length : Int) := by omega
    have q0 : (0 : Int) ≤ (k : Int) := by omega
    have g1 := getD_at (l := c.tens) (i := k) (d := ⟨0, 0, 0, 0, 0, 0, false⟩) hlt
    have B := FV_declared c hr (c.tens.getD k ⟨0, 0, 0, 0, 0, 0, false⟩)
    rw [show rightB (wid c) (c.tens.getD k ⟨0, 0, 0, 0, 0, 0, false⟩) = qT c k from rfl] at B
    cases hb : qT c k with
    | true =>
      rw [hb] at B
      simp -implicitDefEqProofs only [go_sem, ir104_l0, eK, eT, e1, h1, e4, d1, q0, q1, g1, w1, vpS B rfl]
      refine .next hlt ⟨?_, ?_, ?_, by omega, allN_next ha hb⟩ <;> simp -implicitDefEqProofs only [go_sem, e1, h1, w1, eK]
    | false =>
      rw [hb] at B
      simp -implicitDefEqProofs only [go_sem, ir104_l0, eK, eT, e1, h1, e4, d1, q0, q1, g1, w1, vpS B rfl]
      refine .ret (.inr ⟨rfl, allN_false hb _ hlt, ?_⟩)
      simp -implicitDefEqProofs only [go_sem, ]
  · have : k = c.tens.length := by omega
    subst this
    have d1 : decide ((c.tens.length : Int) < (c.tens.length : Int)) = false := by simp
    simp -implicitDefEqProofs only [go_sem, ir104_l0, eK, e1, h1, e4, d1]
    exact .exit (.inl ⟨rfl, ha⟩)
theorem FV_rtValid (c : Conf) (hc : Lens c) : FV PP shF 104 [.agg (eK c)] = some (dI (validT c)) := by
  have V := FV_rValid c hc
  refine FV_ok (F_ok PP104 rfl ⟨by simp [ir104], by simp⟩ ?_)
  unfold validT
  by_cases h0 : validN c = 0
  · obtain ⟨hr, _⟩ := limB_facts (validN_lim h0)
    rw [h0] at V
    have n0 : ((0 : Int) != 0) = false := rfl
    simp -implicitDefEqProofs only [go_sem, ir104, eK, vpS V rfl, h0, n0]
    refine (rtvalid_l0 c hc hr 0 _ ⟨?_, ?_, ?_, by omega, rfl⟩).mono ?_ <;> (try simp -implicitDefEqProofs only [go_sem, eK])
    rintro e ⟨E, H⟩ (⟨rfl, hb⟩ | ⟨rfl, hb, e2⟩)
    · simp -implicitDefEqProofs only [go_sem, hb]
    · simp only at e2
      simp -implicitDefEqProofs only [go_sem, hb, e2]
  · have d1 : (validN c != 0) = true := by simp [h0]
    simp -implicitDefEqProofs only [go_sem, ir104, eK, vpS V rfl, d1, h0]
def inC (c : Conf) (n : Int) : Bool := decide (0 ≤ n) && decide (n < c.cells.length)
def plcB (c : Conf) (x : Plc) : Bool := ((x.home == -1) || inC c x.home) && ((x.sby == -1) || inC c x.sby)
def fitB (c : Conf) (ps : List Plc) : Bool := (validT c == 0) && ((ps.length : Int) == (c.tens.length : Int)) && ps.all (plcB c)
def L90 (p : Prob) (ps : List Plc) (i : Nat) (w : VSt) : Prop := gt .bad w.E 2 = .mp 2 1 0 0 ∧ hg w.H 2 = ⟨1, 0, true, [eQ p]⟩ ∧ gt .bad w.E 20 = .sl (ps.map eP) ∧ gt .bad w.E 21 = dI (ps.length : Nat) ∧ gt .bad w.E 22 = dI (i : Nat) ∧ i ≤ ps.length ∧ ∀ j, j < i → plcB p.conf (plc ps j) = true
theorem fit_l0 (p : Prob) (ps : List Plc) (hps : ps.length ≤ 1000) : ∀ i w, L90 p ps i w → Ok (R PP shF 0 49 (.loop ir90_l0) w) (fun e w => (e = .exit 0 ∧ ∀ j, j < ps.length → plcB p.conf (plc ps j) = true) ∨ (e = .ret ∧ gt .bad w.E 4 = dB false ∧ ∃ j, j < ps.length ∧ plcB p.conf (plc ps j) = false)) := by
  refine Ok_up ps.length _ fun i w hI => ?_
  obtain ⟨E, H⟩ := w
  obtain ⟨e2, h2, e20, e21, e22, hk, hall⟩ := hI
  simp only at e2 h2 e20 e21 e22
  have w1 : IntKind.wrap .i64 ((i : Int) + 1) = ((i + 1 : Nat) : Int) := by rw [w64 (by omega) (by omega)]; rfl
  by_cases hlt : i < ps.length
  · have d1 : decide ((i : Int) < (ps.length : Int)) = true := decide_eq_true (by omega)
    have q0 : (0 : Int) ≤ (i : Int) := by omega
    have q1 : (i : Int) < (ps.length : Int) := by omega
    have g1 : ps[i]? = some (plc ps i) := getD_at hlt
    have C1 := FV_cell p (plc ps i).home
    have C2 := FV_cell p (plc ps i).sby
    have nx : plcB p.conf (plc ps i) = true → ∀ j, j < i + 1 → plcB p.conf (plc ps j) = true := fun h j hj => by
      by_cases hji : j = i
      · rw [hji]; exact h
      · exact hall j (by omega)
    have hp : plcB p.conf (plc ps i) = ((((plc ps i).home == -1) || (decide (0 ≤ (plc ps i).home) && decide ((plc ps i).home < p.conf.cells.length))) && (((plc ps i).sby == -1) || (decide (0 ≤ (plc ps i).sby) && decide ((plc ps i).sby < p.conf.cells.length)))) := rfl
    generalize hb : plcB p.conf (plc ps i) = pb at *
    cases a1 : ((plc ps i).home == -1) with
    | true =>
      have a1' : ((plc ps i).home != -1) = false := by unfold bne; rw [a1]; rfl
      cases b1 : ((plc ps i).sby == -1) with
      | true =>
        have b1' : ((plc ps i).sby != -1) = false := by unfold bne; rw [b1]; rfl
        simp -implicitDefEqProofs only [go_sem, ir90_l0, eQ, e2, h2, e20, e21, e22, d1, q0, q1, g1, w1, a1', b1']
        refine .next hlt ⟨?_, ?_, ?_, ?_, ?_, by omega, nx (by rw [hp, a1, b1]; rfl)⟩ <;> simp -implicitDefEqProofs only [go_sem, eQ, e2, h2, e20, e21, w1]
      | false =>
        have b1' : ((plc ps i).sby != -1) = true := by unfold bne; rw [b1]; rfl
        cases b2 : (decide (0 ≤ (plc ps i).sby) && decide ((plc ps i).sby < (p.conf.cells.length : Int))) with
        | true =>
          rw [b2] at C2
          simp -implicitDefEqProofs only [go_sem, ir90_l0, eQ, e2, h2, e20, e21, e22, d1, q0, q1, g1, w1, a1', b1', vpS C2 rfl]
          refine .next hlt ⟨?_, ?_, ?_, ?_, ?_, by omega, nx (by rw [hp, a1, b1, b2]; rfl)⟩ <;> simp -implicitDefEqProofs only [go_sem, eQ, e2, h2, e20, e21, w1]
        | false =>
          rw [b2] at C2
          simp -implicitDefEqProofs only [go_sem, ir90_l0, eQ, e2, h2, e20, e21, e22, d1, q0, q1, g1, w1, a1', b1', vpS C2 rfl]
          exact .ret (.inr ⟨rfl, by simp -implicitDefEqProofs only [go_sem, ], i, hlt, by rw [hb, hp, a1, b1, b2]; rfl⟩)
    | false =>
      have a1' : ((plc ps i).home != -1) = true := by unfold bne; rw [a1]; rfl
      cases a2 : (decide (0 ≤ (plc ps i).home) && decide ((plc ps i).home < (p.conf.cells.length : Int))) with
      | false =>
        rw [a2] at C1
        simp -implicitDefEqProofs only [go_sem, ir90_l0, eQ, e2, h2, e20, e21, e22, d1, q0, q1, g1, w1, a1', vpS C1 rfl]
        exact .ret (.inr ⟨rfl, by simp -implicitDefEqProofs only [go_sem, ], i, hlt, by rw [hb, hp, a1, a2]; rfl⟩)
      | true =>
        rw [a2] at C1
        cases b1 : ((plc ps i).sby == -1) with
        | true =>
          have b1' : ((plc ps i).sby != -1) = false := by unfold bne; rw [b1]; rfl
          simp -implicitDefEqProofs only [go_sem, ir90_l0, eQ, e2, h2, e20, e21, e22, d1, q0, q1, g1, w1, a1', b1', vpS C1 rfl]
          refine .next hlt ⟨?_, ?_, ?_, ?_, ?_, by omega, nx (by rw [hp, a1, a2, b1]; rfl)⟩ <;> simp -implicitDefEqProofs only [go_sem, eQ, e2, h2, e20, e21, w1]
        | false =>
          have b1' : ((plc ps i).sby != -1) = true := by unfold bne; rw [b1]; rfl
          cases b2 : (decide (0 ≤ (plc ps i).sby) && decide ((plc ps i).sby < (p.conf.cells.length : Int))) with
          | true =>
            rw [b2] at C2
            simp -implicitDefEqProofs only [go_sem, ir90_l0, eQ, e2, h2, e20, e21, e22, d1, q0, q1, g1, w1, a1', b1', vpS C1 rfl, vpS C2 rfl]
            refine .next hlt ⟨?_, ?_, ?_, ?_, ?_, by omega, nx (by rw [hp, a1, a2, b1, b2]; rfl)⟩ <;> simp -implicitDefEqProofs only [go_sem, eQ, e2, h2, e20, e21, w1]
          | false =>
            rw [b2] at C2
            simp -implicitDefEqProofs only [go_sem, ir90_l0, eQ, e2, h2, e20, e21, e22, d1, q0, q1, g1, w1, a1', b1', vpS C1 rfl, vpS C2 rfl]
            exact .ret (.inr ⟨rfl, by simp -implicitDefEqProofs only [go_sem, ], i, hlt, by rw [hb, hp, a1, a2, b1, b2]; rfl⟩)
  · have hkl : i = ps.length := by omega
    have d1 : decide ((i : Int) < (ps.length : Int)) = false := decide_eq_false (by omega)
    simp -implicitDefEqProofs only [go_sem, ir90_l0, e21, e22, d1]
    subst hkl
    exact .exit (.inl ⟨rfl, hall⟩)
theorem all_plc {c : Conf} {ps : List Plc} : (ps.all (plcB c) = true ↔ ∀ j, j < ps.length → plcB c (plc ps j) = true) := by
  rw [List.all_eq_true]
  constructor
  · intro h j hj; exact h _ (List.mem_of_getElem? (getD_at (l := ps) (i := j) (d := ⟨0, 0⟩) hj))
  · intro h x hx
    obtain ⟨j, hj, rfl⟩ := List.mem_iff_getElem.1 hx
    have := h j hj
    unfold plc at this
    rwa [List.getD_eq_getElem?_getD, List.getElem?_eq_getElem hj] at this
theorem FV_Fit (p : Prob) (hc : Lens p.conf) (ps : List Plc) (hps : ps.length ≤ 1000) : FV PP shF 90 [.agg (eQ p), .sl (ps.map eP)] = some (dB (fitB p.conf ps)) := by
  refine FV_ok (F_ok PP90 rfl ⟨by simp [ir90], by simp⟩ ?_)
  have V := FV_tValid p.conf hc
  unfold fitB
  cases v : (validT p.conf == 0) with
  | false =>
    have v' : (validT p.conf != 0) = true := by unfold bne; rw [v]; rfl
    simp -implicitDefEqProofs only [go_sem, ir90, eQ, eK, vpS V rfl, v']
  | true =>
    have v' : (validT p.conf != 0) = false := by unfold bne; rw [v]; rfl
    cases l : ((ps.length : Int) == (p.conf.tens.length : Int)) with
    | false =>
      have l' : ((ps.length : Int) != (p.conf.tens.length : Int)) = true := by unfold bne; rw [l]; rfl
      simp -implicitDefEqProofs only [go_sem, ir90, eQ, eK, vpS V rfl, v', l']
    | true =>
      have l' : ((ps.length : Int) != (p.conf.tens.length : Int)) = false := by unfold bne; rw [l]; rfl
      simp -implicitDefEqProofs only [go_sem, ir90, eQ, eK, vpS V rfl, v', l']
      refine (fit_l0 p ps hps 0 _ ⟨?_, ?_, ?_, ?_, ?_, by omega, fun j hj => by omega⟩).mono ?_ <;> (try simp -implicitDefEqProofs only [go_sem, eQ])
      rintro e ⟨E, H⟩ (⟨rfl, h⟩ | ⟨rfl, e4, j, hj, h⟩)
      · rw [all_plc.2 h]
        simp -implicitDefEqProofs only [go_sem, ]
      · have : ps.all (plcB p.conf) = false := by
          cases ha : ps.all (plcB p.conf) with
          | false => rfl
          | true => rw [all_plc.1 ha j hj] at h; simp at h
        rw [this]
        simp only at e4
        simp -implicitDefEqProofs only [go_sem, e4]
def L91 (p : Prob) (ps : List Plc) (i : Nat) (w : VSt) : Prop := gt .bad w.E 2 = .mp 2 1 0 0 ∧ hg w.H 2 = ⟨1, 0, true, [eQ p]⟩ ∧ gt .bad w.E 1 = .sl (ps.map eP) ∧ gt .bad w.E 5 = dI (i : Nat) ∧ i ≤ ps.length ∧ ∀ j, j < i → plcB p.conf (plc ps j) = true
theorem rfit_l0 (p : Prob) (ps : List Plc) (hps : ps.length ≤ 1000) : ∀ i w, L91 p ps i w → Ok (R PP shF 0 63 (.loop ir91_l0) w) (fun e w => (e = .exit 0 ∧ ∀ j, j < ps.length → plcB p.conf (plc ps j) = true) ∨ (e = .ret ∧ gt .bad w.E 4 = dB false ∧ ∃ j, j < ps.length ∧ plcB p.conf (plc ps j) = false)) := by
  refine Ok_up ps.length _ fun i w hI => ?_
  obtain ⟨E, H⟩ := w
  obtain ⟨e2, h2, e1, e5, hk, hall⟩ := hI
  simp only at e2 h2 e1 e5
  have w1 : IntKind.wrap .i64 ((i : Int) + 1) = ((i + 1 : Nat) : Int) := by rw [w64 (by omega) (by omega)]; rfl
  by_cases hlt : i < ps.length
  · have d1 : decide ((i : Int) < (ps.length : Int)) = true := decide_eq_true (by omega)
    have q0 : (0 : Int) ≤ (i : Int) := by omega
    have q1 : (i : Int) < (ps.length : Int) := by omega
    have g1 : ps[i]? = some (plc ps i) := getD_at hlt
    have nx : plcB p.conf (plc ps i) = true → ∀ j, j < i + 1 → plcB p.conf (plc ps j) = true := fun h j hj => by
      by_cases hji : j = i
      · rw [hji]; exact h
      · exact hall j (by omega)
    have hp : plcB p.conf (plc ps i) = (!(decide ((plc ps i).home < -1) || decide ((p.conf.cells.length : Int) ≤ (plc ps i).home) || decide ((plc ps i).sby < -1) || decide ((p.conf.cells.length : Int) ≤ (plc ps i).sby))) := by
      unfold plcB inC
      rw [Bool.eq_iff_iff]
      simp
      omega
    generalize hb : plcB p.conf (plc ps i) = pb at *
    cases a1 : decide ((plc ps i).home < -1) with
    | true =>
      simp -implicitDefEqProofs only [go_sem, ir91_l0, eQ, e2, h2, e1, e5, d1, q0, q1, g1, w1, a1]
      exact .ret (.inr ⟨rfl, by simp -implicitDefEqProofs only [go_sem, ], i, hlt, by rw [hb, hp, a1]; rfl⟩)
    | false =>
      cases a2 : decide ((p.conf.cells.length : Int) ≤ (plc ps i).home) with
      | true =>
        simp -implicitDefEqProofs only [go_sem, ir91_l0, eQ, e2, h2, e1, e5, d1, q0, q1, g1, w1, a1, a2]
        exact .ret (.inr ⟨rfl, by simp -implicitDefEqProofs only [go_sem, ], i, hlt, by rw [hb, hp, a1, a2]; rfl⟩)
      | false =>
        cases a3 : decide ((plc ps i).sby < -1) with
        | true =>
          simp -implicitDefEqProofs only [go_sem, ir91_l0, eQ, e2, h2, e1, e5, d1, q0, q1, g1, w1, a1, a2, a3]
          exact .ret (.inr ⟨rfl, by simp -implicitDefEqProofs only [go_sem, ], i, hlt, by rw [hb, hp, a1, a2, a3]; rfl⟩)
        | false =>
          cases a4 : decide ((p.conf.cells.length : Int) ≤ (plc ps i).sby) with
          | true =>
            simp -implicitDefEqProofs only [go_sem, ir91_l0, eQ, e2, h2, e1, e5, d1, q0, q1, g1, w1, a1, a2, a3, a4]
            exact .ret (.inr ⟨rfl, by simp -implicitDefEqProofs only [go_sem, ], i, hlt, by rw [hb, hp, a1, a2, a3, a4]; rfl⟩)
          | false =>
            simp -implicitDefEqProofs only [go_sem, ir91_l0, eQ, e2, h2, e1, e5, d1, q0, q1, g1, w1, a1, a2, a3, a4]
            refine .next hlt ⟨?_, ?_, ?_, ?_, by omega, nx (by rw [hp, a1, a2, a3, a4]; rfl)⟩ <;> simp -implicitDefEqProofs only [go_sem, eQ, e2, h2, e1, w1]
  · have hkl : i = ps.length := by omega
    have d1 : decide ((i : Int) < (ps.length : Int)) = false := decide_eq_false (by omega)
    simp -implicitDefEqProofs only [go_sem, ir91_l0, e1, e5, d1]
    subst hkl
    exact .exit (.inl ⟨rfl, hall⟩)
theorem FV_rFit (p : Prob) (hc : Lens p.conf) (ps : List Plc) (hps : ps.length ≤ 1000) : FV PP shF 91 [.agg (eQ p), .sl (ps.map eP)] = some (dB (fitB p.conf ps)) := by
  refine FV_ok (F_ok PP91 rfl ⟨by simp [ir91], by simp⟩ ?_)
  have V := FV_rtValid p.conf hc
  unfold fitB
  cases v : (validT p.conf == 0) with
  | false =>
    have v' : (validT p.conf != 0) = true := by unfold bne; rw [v]; rfl
    simp -implicitDefEqProofs only [go_sem, ir91, eQ, eK, vpS V rfl, v']
  | true =>
    have v' : (validT p.conf != 0) = false := by unfold bne; rw [v]; rfl
    cases l : ((ps.length : Int) == (p.conf.tens.length : Int)) with
    | false =>
      have l' : ((ps.length : Int) != (p.conf.tens.length : Int)) = true := by unfold bne; rw [l]; rfl
      simp -implicitDefEqProofs only [go_sem, ir91, eQ, eK, vpS V rfl, v', l']
    | true =>
      have l' : ((ps.length : Int) != (p.conf.tens.length : Int)) = false := by unfold bne; rw [l]; rfl
      simp -implicitDefEqProofs only [go_sem, ir91, eQ, eK, vpS V rfl, v', l']
      refine (rfit_l0 p ps hps 0 _ ⟨?_, ?_, ?_, ?_, by omega, fun j hj => by omega⟩).mono ?_ <;> (try simp -implicitDefEqProofs only [go_sem, eQ])
      rintro e ⟨E, H⟩ (⟨rfl, h⟩ | ⟨rfl, e4, j, hj, h⟩)
      · rw [all_plc.2 h]
        simp -implicitDefEqProofs only [go_sem, ]
      · have : ps.all (plcB p.conf) = false := by
          cases ha : ps.all (plcB p.conf) with
          | false => rfl
          | true => rw [all_plc.1 ha j hj] at h; simp at h
        rw [this]
        simp only at e4
        simp -implicitDefEqProofs only [go_sem, e4]
theorem FV_run (k : Nat) {g : Nat} (h : (vmach PP shF k g [] [] 0).map (·.1) = some (dB true)) : FV PP shF g [] = some (dB true) := by
  simp only [Option.map_eq_some_iff] at h
  obtain ⟨⟨d, H⟩, h1, h2⟩ := h
  simp only at h2; subst h2
  exact FV_B (F_of k h1)
theorem rows_of {α : Type} (e : α → List DV) {p : List DV → Prop} (h : ∀ el, p el → ∃ a, el = e a) : ∀ L : List (List DV), (∀ el, el ∈ L → p el) → ∃ l : List α, L = l.map e
  | [], _ => ⟨[], rfl⟩
  | x :: L, hL => by
    obtain ⟨a, ha⟩ := h x (hL x (by simp))
    obtain ⟨l, hl⟩ := rows_of e h L (fun el hel => hL el (by simp [hel]))
    exact ⟨a :: l, by rw [ha, hl]; rfl⟩
theorem ShpC.int {d : DV} (h : ShpC .i d) : ∃ n : Int, I64 n ∧ d = dI n := h
theorem ShpE.cons {k : CK} {ks : List CK} : ∀ {el : List DV}, ShpE (k :: ks) el → ∃ d ds, el = d :: ds ∧ ShpC k d ∧ ShpE ks ds
  | [], h => h.elim
  | d :: ds, h => ⟨d, ds, rfl, h.1, h.2⟩
theorem ShpE.nil : ∀ {el : List DV}, ShpE [] el → el = []
  | [], _ => rfl
  | _ :: _, h => h.elim
theorem Shps.cons {k : PK} {ks : List PK} : ∀ {el : List DV}, Shps (k :: ks) el → ∃ d ds, el = d :: ds ∧ ShpP k d ∧ Shps ks ds
  | [], h => h.elim
  | d :: ds, h => ⟨d, ds, rfl, h.1, h.2⟩
theorem Shps.nil : ∀ {el : List DV}, Shps [] el → el = []
  | [], _ => rfl
  | _ :: _, h => h.elim
theorem ShpP.int {d : DV} (h : ShpP (.c .i) d) : ∃ n : Int, I64 n ∧ d = dI n := h
theorem ShpP.sl {es : List CK} {d : DV} (h : ShpP (.s es) d) : ∃ L, d = .sl L ∧ ∀ el, el ∈ L → ShpE es el := h
theorem shp_ii {el : List DV} (h : ShpE [.i, .i] el) : ∃ a b : Int, el = [dI a, dI b] := by
  obtain ⟨_, _, e1, p1, g1⟩ := h.cons
  subst e1
  obtain ⟨a, _, q1⟩ := p1.int
  subst q1
  obtain ⟨_, _, e2, p2, g2⟩ := g1.cons
  subst e2
  obtain ⟨b, _, q2⟩ := p2.int
  subst q2
  obtain rfl := g2.nil
  exact ⟨a, b, rfl⟩
theorem allN_true {q : Nat → Bool} : ∀ n : Nat, (∀ i, i < n → q i = true) → allN q n = true
  | 0, _ => rfl
  | n + 1, h => by simp only [allN, allN_true n (fun i hi => h i (by omega)), h n (by omega), Bool.and_self]
theorem inB_true {n lo hi : Int} (h : lo ≤ n ∧ n ≤ hi) : inB n lo hi = true := by unfold inB; rw [decide_eq_true h.1, decide_eq_true h.2]; rfl
theorem ConfOk.valid {c : Conf} (hc : ConfOk c) : validN c = 0 := by
  have r0 := hc.r0
  have r1 := hc.r1
  have z0 := hc.z0
  have z1 := hc.z1
  have c0 := hc.c0
  have c1 := hc.c1
  have t1 := hc.t1
  have v1 := hc.v1
  have v0 := List.length_pos_iff.2 hc.v0
  have o0 := hc.o0
  have o1 := hc.o1
  have hl : limB c = true := by
    unfold limB
    rw [inB_true ⟨by omega, by omega⟩, inB_true ⟨by omega, by omega⟩, inB_true ⟨by omega, by omega⟩, inB_true ⟨by omega, by omega⟩, inB_true (n := (c.reps.length : Int)) ⟨by rcases hc.ps with h | h <;> omega, by rcases hc.ps with h | h <;> omega⟩, inB_true ⟨by omega, by omega⟩, decide_eq_true (by omega)]
    rfl
  have he : evenB c = false := by
    unfold evenB
    rcases hc.ps with h | h <;> rw [h] <;> rfl
  have hz : ∀ l : List Int, (∀ z, z ∈ l → 0 ≤ z ∧ z < (c.zones.length : Int)) → zonesB c l = true := fun l h => allN_true _ fun i hi => by
    have g := getD_at (l := l) (i := i) (d := 0) hi
    have := h _ (List.mem_of_getElem? g)
    exact inB_true ⟨by omega, by omega⟩
  have hp : placedB c = true := by
    unfold placedB
    rw [hz _ hc.pz, hz _ hc.oz, allN_true _ (fun i hi => ?_), allN_true _ (fun i hi => ?_)]
    · rfl
    · have g := getD_at (l := c.cells) (i := i) (d := ⟨0, 0⟩) hi
      have := hc.cs _ (List.mem_of_getElem? g)
      unfold qC
      rw [inB_true ⟨by omega, by omega⟩, inB_true ⟨by omega, by omega⟩]; rfl
    · have g := getD_at (l := c.zones) (i := i) (d := 0) hi
      have := hc.zs _ (List.mem_of_getElem? g)
      exact inB_true ⟨by omega, by omega⟩
  have hv : versB c = true := by
    unfold versB
    have g0 := getD_at (l := c.vers) (i := 0) (d := ⟨0, 0⟩) v0
    have hf : firstB c = true := by
      unfold firstB
      rw [hc.vh (c.vers.getD 0 ⟨0, 0⟩) (by rw [← g0, List.head?_eq_getElem?])]
      rfl
    rw [hf, allN_true _ (fun i hi => ?_)]
    · rfl
    · have g := getD_at (l := c.vers) (i := i) (d := ⟨0, 0⟩) hi
      have := hc.vs _ (List.mem_of_getElem? g)
      unfold qV
      have x1 := this.l1
      have x2 := this.h1
      rw [decide_eq_true this.l0, decide_eq_true this.h0, decide_eq_true (by omega)]
      rfl
  have hr : restB c = true := by
    unfold restB
    have := hc.b0
    have := hc.b1
    have := hc.l0
    have := hc.l1
    have := hc.k0
    have := hc.k1
    rw [inB_true ⟨by omega, by omega⟩, inB_true ⟨by omega, by omega⟩, inB_true ⟨by omega, by omega⟩]; rfl
  unfold validN okB4
  rw [hl, he, hp, hv, hr]; rfl
theorem ConfOk.validT {c : Conf} (hc : ConfOk c) : Cp.validT c = 0 := by
  have r0 := hc.r0
  have r1 := hc.r1
  unfold Cp.validT
  rw [hc.valid, if_pos rfl, allN_true _ (fun i hi => ?_)]
  · rfl
  · have g := getD_at (l := c.tens) (i := i) (d := ⟨0, 0, 0, 0, 0, 0, false⟩) hi
    have h := hc.ts _ (List.mem_of_getElem? g)
    have a0 := h.l0
    have a1 := h.l1
    have a2 := h.s0
    have a3 := h.s1
    have a4 := h.p0
    have a5 := h.p1
    have a6 := h.g0
    have a7 := h.g1
    have a8 := h.a0
    have a9 := h.a1
    have b0 := h.u0
    have b1 := h.u1
    have hw : allR c.regions < wid c := by
      unfold wid
      obtain hh | hh | hh : c.regions = 1 ∨ c.regions = 2 ∨ c.regions = 3 := by omega
      all_goals (rw [hh]; decide)
    unfold qT rightB
    rw [inB_true ⟨by omega, by omega⟩, inB_true ⟨by omega, by omega⟩, inB_true ⟨by omega, by omega⟩, inB_true ⟨by omega, by omega⟩, inB_true ⟨by omega, by omega⟩, decide_eq_true (by omega), decide_eq_true (by omega)]
    rfl
theorem fit_iff {c : Conf} (hc : ConfOk c) (ps : List Plc) : fitB c ps = true ↔ FitP c ps := by
  unfold fitB FitP
  rw [hc.validT]
  simp only [beq_self_eq_true, Bool.true_and, Bool.and_eq_true, beq_iff_eq]
  constructor
  · rintro ⟨h1, h2⟩
    refine ⟨by omega, fun x hx => ?_⟩
    have := List.all_eq_true.1 h2 x hx
    unfold plcB inC at this
    simp at this
    exact ⟨by omega, by omega, by omega, by omega⟩
  · rintro ⟨h1, h2⟩
    refine ⟨by omega, List.all_eq_true.2 fun x hx => ?_⟩
    have := h2 x hx
    have a := this.h0; have b := this.h1; have d := this.s0; have e := this.s1
    unfold plcB inC
    simp
    omega
structure Mv where
  t : Int
  h : Int
  s : Int
  deriving DecidableEq
abbrev eM (x : Mv) : List DV := [dI x.t, dI x.h, dI x.s]
def mskM (c : Conf) : Int := IntKind.wrap .i64 (IntKind.wrap .i64 (1 * 2 ^ min c.cells.length 64) - 1)
theorem FV_mprob (c : Conf) : FV PP shF 239 [.agg (eK c)] = some (.agg (eQ ⟨c, mskM c, false⟩)) := by
  refine FV_ok (F_ok PP239 rfl ⟨by simp [ir239], by simp⟩ ?_)
  have q : ¬ ((c.cells.length : Int) < 0) := by omega
  simp -implicitDefEqProofs only [go_sem, ir239, eQ, eK, mskM, Int.toNat_natCast, q]
theorem FV_mall (c : Conf) : FV PP shF 241 [.agg (eK c)] = some (.agg (eQ ⟨c, 65535, false⟩)) := by
  refine FV_ok (F_ok PP241 rfl ⟨by simp [ir241], by simp⟩ ?_)
  simp -implicitDefEqProofs only [go_sem, ir241, eQ, eK]
theorem FV_mfit (c : Conf) (hc : ConfOk c) (ps : List Plc) (hps : ps.length ≤ 1000) : FV PP shF 237 [.agg (eK c), .sl (ps.map eP)] = some (dB (fitB c ps)) := by
  refine FV_ok (F_ok PP237 rfl ⟨by simp [ir237], by simp⟩ ?_)
  have V := FV_tValid c hc.lens
  have P := FV_mprob c
  have T := FV_Fit ⟨c, mskM c, false⟩ hc.lens ps hps
  cases v : (validT c == 0) with
  | false =>
    have e : fitB c ps = false := by unfold fitB; rw [v]; rfl
    simp -implicitDefEqProofs only [go_sem, ir237, eK, vpS V rfl, v, e]
  | true => simp -implicitDefEqProofs only [go_sem, ir237, eK, eQ, vpS V rfl, v, vpL P rfl, vpS T rfl]
theorem FV_mValid (c : Conf) (hc : ConfOk c) (ps : List Plc) (hps : ps.length ≤ 1000) : FV PP shF 240 [.agg (eK c), .sl (ps.map eP)] = some (dB (fitB c ps)) := by
  refine FV_ok (F_ok PP240 rfl ⟨by simp [ir240], by simp⟩ ?_)
  have P := FV_mall c
  have T := FV_rFit ⟨c, 65535, false⟩ hc.lens ps hps
  simp -implicitDefEqProofs only [go_sem, ir240, eK, eQ, vpL P rfl, vpS T rfl]
theorem FV_named (c : Conf) (n : Int) : FV PP shF 238 [.agg (eK c), dI n] = some (dB (decide (-1 ≤ n) && decide (n < c.cells.length))) := by
  refine FV_ok (F_ok PP238 rfl ⟨by simp [ir238], by simp⟩ ?_)
  by_cases h : -1 ≤ n
  · simp -implicitDefEqProofs only [go_sem, ir238, eK, h]
  · simp -implicitDefEqProofs only [go_sem, ir238, eK, h]
def nxC (c : Conf) (a b : Plc) : Bool := (a.sby != -1) && (b.home != -1) && !apartB c a.sby b.home
def nxM (c : Conf) (i : Nat) (a b : Plc) : Mv := if a.home = b.home then ⟨i, a.home, b.sby⟩ else if nxC c a b = true then ⟨i, a.home, -1⟩ else ⟨i, b.home, a.sby⟩
theorem FV_next (c : Conf) (hc : ConfOk c) (i : Nat) (a b : Plc) : FV PP shF 242 [.agg (eK c), dI (i : Nat), .agg (eP a), .agg (eP b)] = some (.agg (eM (nxM c i a b))) := by
  refine FV_ok (F_ok PP242 rfl ⟨by simp [ir242], by simp⟩ ?_)
  unfold nxM nxC
  by_cases h : a.home = b.home
  · have h1 : (a.home == b.home) = true := by simpa using h
    rw [if_pos h]
    simp -implicitDefEqProofs only [go_sem, ir242, eK, eP, eM, h1]
  · have h1 : (a.home == b.home) = false := by simpa using h
    rw [if_neg h]
    have A := FV_Apart c hc a.sby b.home
    cases h2 : (a.sby != -1) with
    | false => 
      rw [if_neg (by simp)]
      simp -implicitDefEqProofs only [go_sem, ir242, eK, eP, eM, h1, h2]
    | true =>
      cases h3 : (b.home != -1) with
      | false =>
        rw [if_neg (by simp)]
        simp -implicitDefEqProofs only [go_sem, ir242, eK, eP, eM, h1, h2, h3]
      | true =>
        cases h4 : apartB c a.sby b.home with
        | true =>
          rw [h4] at A
          rw [if_neg (by simp)]
          simp -implicitDefEqProofs only [go_sem, ir242, eK, eP, eM, h1, h2, h3, vpS A rfl]
        | false =>
          rw [h4] at A
          rw [if_pos (by simp)]
          simp -implicitDefEqProofs only [go_sem, ir242, eK, eP, eM, h1, h2, h3, vpS A rfl]
def nmB (c : Conf) (n : Int) : Bool := decide (-1 ≤ n) && decide (n < c.cells.length)
def bkM (c : Conf) (ps : List Plc) : List Int := booked c ps ps.length
/-- The load fits. -/
def ldB (c : Conf) (ps : List Plc) (n l : Int) : Bool := (n == -1) || decide ((bkM c ps).getD n.toNat 0 + l ≤ (c.cells.getD n.toNat ⟨0, 0⟩).cap)
def stepB (c : Conf) (x : Plc) (m : Mv) : Bool := !((m.h != x.home) == (m.s != x.sby)) && !((m.h == -1) && (x.home != -1)) && !((m.h != -1) && (m.s != -1) && !apartB c m.h m.s)
def fitsM (c : Conf) (ps : List Plc) (m : Mv) : Bool :=
  fitB c ps && decide (0 ≤ m.t) && decide (m.t < ps.length) && nmB c m.h && nmB c m.s &&
  (stepB c (plc ps m.t.toNat) m && (if m.h = (plc ps m.t.toNat).home then ldB c ps m.s (ten c m.t).shadow else ldB c ps m.h (ten c m.t).load))
theorem bk_idx {c : Conf} (hc : ConfOk c) {ps : List Plc} (hl : ps.length = c.tens.length) {n : Int} (h0 : 0 ≤ n) (h1 : n < c.cells.length) :
    (bkM c ps).length = c.cells.length ∧ (bkM c ps)[n.toNat]? = some ((bkM c ps).getD n.toNat 0) ∧ c.cells[n.toNat]? = some (c.cells.getD n.toNat ⟨0, 0⟩) ∧ 0 ≤ (bkM c ps).getD n.toNat 0 ∧ (bkM c ps).getD n.toNat 0 ≤ 200 := by
  have e : (bkM c ps).length = c.cells.length := booked_len _ _ _
  have b := booked_bd hc ps ps.length (by omega) n.toNat
  have := hc.t1
  refine ⟨e, getD_at (by omega), getD_at (by omega), b.1, ?_⟩
  have h2 := b.2
  unfold bkM
  omega
theorem bft : (false == true) = false := rfl
theorem btf : (true == false) = false := rfl
theorem bff : (false == false) = true := rfl
theorem btt : (true == true) = true := rfl
theorem nbe (a : Int) : (a != a) = false := by simp
/-- Fits, where all is named. -/
theorem fits_core (c : Conf) (hc : ConfOk c) (ps : List Plc) (hfit : FitP c ps) (k : Nat) (hk : k < ps.length) (h s : Int) (n1 : -1 ≤ h ∧ h < c.cells.length) (n2 : -1 ≤ s ∧ s < c.cells.length) :
    FV PP shF 226 [.agg (eK c), .sl (ps.map eP), .agg (eM ⟨(k : Nat), h, s⟩)] = some (dB (stepB c (plc ps k) ⟨(k : Nat), h, s⟩ && (if h = (plc ps k).home then ldB c ps s (ten c (k : Nat)).shadow else ldB c ps h (ten c (k : Nat)).load))) := by
  have ht1 := hc.t1
  have hpl := hfit.1
  have A1 := FV_mfit c hc ps (by omega)
  rw [(fit_iff hc ps).2 hfit] at A1
  have N1 := FV_named c h
  have N2 := FV_named c s
  rw [decide_eq_true n1.1, decide_eq_true n1.2] at N1
  rw [decide_eq_true n2.1, decide_eq_true n2.2] at N2
  simp only [Bool.and_self] at N1 N2
  have f0 : decide ((k : Int) < 0) = false := decide_eq_false (by omega)
  have f1 : decide ((ps.length : Int) ≤ (k : Int)) = false := decide_eq_false (by omega)
  have g1 : ps[k]? = some (plc ps k) := getD_at hk
  have g2 : c.tens[k]? = some (ten c (k : Nat)) := getD_at (l := c.tens) (i := k) (d := ⟨0, 0, 0, 0, 0, 0, false⟩) (by omega)
  have q0 : (0 : Int) ≤ (k : Int) := by omega
  have q1 : (k : Int) < (ps.length : Int) := by omega
  have q2 : (k : Int) < (c.tens.length : Int) := by omega
  have tk := ten_ok hc (k := k) (by omega)
  have l0 := tk.l0
  have l1 := tk.l1
  have s0 := tk.s0
  have s1 := tk.s1
  have AP := FV_Apart c hc h s
  have P := FV_mprob c
  have BK := FVF_Booked ⟨c, mskM c, false⟩ hc ps (by omega)
  simp only at BK
  rw [show min ps.length c.tens.length = ps.length by omega, show booked c ps ps.length = bkM c ps from rfl] at BK
  generalize plc ps k = x at *
  unfold stepB
  simp only
  refine FV_ok (F_ok PP226 rfl ⟨by simp [ir226], by simp⟩ ?_)
  have ld : ∀ n l : Int, -1 ≤ n → n < c.cells.length → n ≠ -1 → 0 ≤ l → l ≤ 12 → (n == -1) = false ∧ (0 ≤ n) ∧ (n < ((bkM c ps).length : Int)) ∧ ((bkM c ps)[n.toNat]? = some ((bkM c ps).getD n.toNat 0)) ∧ (c.cells[n.toNat]? = some (c.cells.getD n.toNat ⟨0, 0⟩)) ∧ IntKind.wrap .i64 ((bkM c ps).getD n.toNat 0 + l) = (bkM c ps).getD n.toNat 0 + l := fun n l h1 h2 h3 h4 h5 => by
    obtain ⟨a1, a2, a3, a4, a5⟩ := bk_idx hc hfit.1 (n := n) (by omega) h2
    exact ⟨by simpa using h3, by omega, by omega, a2, a3, w64 (by omega) (by omega)⟩
  by_cases e1 : h = x.home
  · subst e1
    rw [if_pos rfl]
    by_cases e2 : s = x.sby
    · subst e2
      simp -implicitDefEqProofs only [go_sem, ir226, eK, eM, eP, vpS A1 rfl, f0, f1, vpS N1 rfl, vpS N2 rfl, bft, btf, bff, btt, g1, g2, q0, q1, q2, nbe]
    · have b2 : (s != x.sby) = true := by simpa using e2
      have l3 := ld s (ten c (k : Nat)).shadow n2.1 n2.2
      by_cases e3 : x.home = -1
      · have b3 : (x.home == -1) = true := by simpa using e3
        have b4 : (x.home != -1) = false := by simpa using e3
        by_cases e4 : s = -1
        · have b5 : (s == -1) = true := by simpa using e4
          have hl : ldB c ps s (ten c (k : Nat)).shadow = true := by unfold ldB; rw [b5]; rfl
          simp -implicitDefEqProofs only [go_sem, ir226, eK, eM, eP, vpS A1 rfl, f0, f1, vpS N1 rfl, vpS N2 rfl, bft, btf, bff, btt, g1, g2, q0, q1, q2, nbe, b2, b3, b4, b5, hl]
        · obtain ⟨y1, y2, y3, y4, y5, y6⟩ := l3 e4 s0 (by omega)
          have hl : ldB c ps s (ten c (k : Nat)).shadow = decide ((bkM c ps).getD s.toNat 0 + (ten c (k : Nat)).shadow ≤ (c.cells.getD s.toNat ⟨0, 0⟩).cap) := by unfold ldB; rw [y1]; rfl
          have y7 := n2.2
          simp -implicitDefEqProofs only [go_sem, ir226, eK, eM, eP, vpS A1 rfl, f0, f1, vpS N1 rfl, vpS N2 rfl, bft, btf, bff, btt, g1, g2, q0, q1, q2, eQ, nbe, b2, b3, b4, y1, y2, y3, y4, y5, y6, y7, hl, vpL P rfl, vpF BK rfl]
      · have b3 : (x.home == -1) = false := by simpa using e3
        have b4 : (x.home != -1) = true := by simpa using e3
        by_cases e4 : s = -1
        · have b5 : (s == -1) = true := by simpa using e4
          have b6 : (s != -1) = false := by simpa using e4
          have hl : ldB c ps s (ten c (k : Nat)).shadow = true := by unfold ldB; rw [b5]; rfl
          simp -implicitDefEqProofs only [go_sem, ir226, eK, eM, eP, vpS A1 rfl, f0, f1, vpS N1 rfl, vpS N2 rfl, bft, btf, bff, btt, g1, g2, q0, q1, q2, nbe, b2, b3, b4, b5, b6, hl]
        · obtain ⟨y1, y2, y3, y4, y5, y6⟩ := l3 e4 s0 (by omega)
          have b6 : (s != -1) = true := by simpa using e4
          have hl : ldB c ps s (ten c (k : Nat)).shadow = decide ((bkM c ps).getD s.toNat 0 + (ten c (k : Nat)).shadow ≤ (c.cells.getD s.toNat ⟨0, 0⟩).cap) := by unfold ldB; rw [y1]; rfl
          have y7 := n2.2
          cases ap : apartB c x.home s with
          | false =>
            rw [ap] at AP
            simp -implicitDefEqProofs only [go_sem, ir226, eK, eM, eP, vpS A1 rfl, f0, f1, vpS N1 rfl, vpS N2 rfl, bft, btf, bff, btt, g1, g2, q0, q1, q2, nbe, b2, b3, b4, b6, vpS AP rfl]
          | true =>
            rw [ap] at AP
            simp -implicitDefEqProofs only [go_sem, ir226, eK, eM, eP, vpS A1 rfl, f0, f1, vpS N1 rfl, vpS N2 rfl, bft, btf, bff, btt, g1, g2, q0, q1, q2, eQ, nbe, b2, b3, b4, b6, y1, y2, y3, y4, y5, y6, y7, hl, vpS AP rfl, vpL P rfl, vpF BK rfl]
  · have b1 : (h != x.home) = true := by simpa using e1
    rw [if_neg e1]
    by_cases e2 : s = x.sby
    case neg =>
      have b2 : (s != x.sby) = true := by simpa using e2
      simp -implicitDefEqProofs only [go_sem, ir226, eK, eM, eP, vpS A1 rfl, f0, f1, vpS N1 rfl, vpS N2 rfl, bft, btf, bff, btt, g1, g2, q0, q1, q2, b1, b2]
    subst e2
    have l3 := ld h (ten c (k : Nat)).load n1.1 n1.2
    by_cases e3 : h = -1
    · have b3 : (h == -1) = true := by simpa using e3
      have b4 : (x.home != -1) = true := by rw [← e3]; simpa using fun a => e1 a.symm
      simp -implicitDefEqProofs only [go_sem, ir226, eK, eM, eP, vpS A1 rfl, f0, f1, vpS N1 rfl, vpS N2 rfl, bft, btf, bff, btt, g1, g2, q0, q1, q2, nbe, b1, b3, b4]
    · obtain ⟨y1, y2, y3, y4, y5, y6⟩ := l3 e3 (by omega) l1
      have b6 : (h != -1) = true := by simpa using e3
      have hl : ldB c ps h (ten c (k : Nat)).load = decide ((bkM c ps).getD h.toNat 0 + (ten c (k : Nat)).load ≤ (c.cells.getD h.toNat ⟨0, 0⟩).cap) := by unfold ldB; rw [y1]; rfl
      have y7 := n1.2
      by_cases e4 : x.sby = -1
      · have b7 : (x.sby != -1) = false := by simpa using e4
        simp -implicitDefEqProofs only [go_sem, ir226, eK, eM, eP, vpS A1 rfl, f0, f1, vpS N1 rfl, vpS N2 rfl, bft, btf, bff, btt, g1, g2, q0, q1, q2, eQ, nbe, b1, b6, b7, y1, y2, y3, y4, y5, y6, y7, hl, vpL P rfl, vpF BK rfl]
      · have b7 : (x.sby != -1) = true := by simpa using e4
        cases ap : apartB c h x.sby with
        | false =>
          rw [ap] at AP
          simp -implicitDefEqProofs only [go_sem, ir226, eK, eM, eP, vpS A1 rfl, f0, f1, vpS N1 rfl, vpS N2 rfl, bft, btf, bff, btt, g1, g2, q0, q1, q2, nbe, b1, b6, b7, y1, vpS AP rfl]
        | true =>
          rw [ap] at AP
          simp -implicitDefEqProofs only [go_sem, ir226, eK, eM, eP, vpS A1 rfl, f0, f1, vpS N1 rfl, vpS N2 rfl, bft, btf, bff, btt, g1, g2, q0, q1, q2, eQ, nbe, b1, b6, b7, y1, y2, y3, y4, y5, y6, y7, hl, vpS AP rfl, vpL P rfl, vpF BK rfl]
theorem FV_Fits (c : Conf) (hc : ConfOk c) (ps : List Plc) (hps : ps.length ≤ 1000) (m : Mv) : FV PP shF 226 [.agg (eK c), .sl (ps.map eP), .agg (eM m)] = some (dB (fitsM c ps m)) := by
  obtain ⟨t, h, s⟩ := m
  have A1 := FV_mfit c hc ps hps
  cases hf : fitB c ps with
  | false =>
    rw [hf] at A1
    have e : fitsM c ps ⟨t, h, s⟩ = false := by unfold fitsM; rw [hf]; rfl
    refine FV_ok (F_ok PP226 rfl ⟨by simp [ir226], by simp⟩ ?_)
    simp -implicitDefEqProofs only [go_sem, ir226, eK, eM, vpS A1 rfl, e]
  | true =>
  rw [hf] at A1
  have hfit := (fit_iff hc ps).1 hf
  have ht1 := hc.t1
  by_cases t0 : t < 0
  · have e : fitsM c ps ⟨t, h, s⟩ = false := by unfold fitsM; rw [hf, decide_eq_false (show ¬ 0 ≤ t by omega)]; rfl
    have f := decide_eq_true t0
    refine FV_ok (F_ok PP226 rfl ⟨by simp [ir226], by simp⟩ ?_)
    simp -implicitDefEqProofs only [go_sem, ir226, eK, eM, vpS A1 rfl, f, e]
  have f0 := decide_eq_false t0
  by_cases t1 : (ps.length : Int) ≤ t
  · have e : fitsM c ps ⟨t, h, s⟩ = false := by unfold fitsM; rw [hf, decide_eq_true (show 0 ≤ t by omega), decide_eq_false (show ¬ t < (ps.length : Int) by omega)]; rfl
    have f := decide_eq_true t1
    refine FV_ok (F_ok PP226 rfl ⟨by simp [ir226], by simp⟩ ?_)
    simp -implicitDefEqProofs only [go_sem, ir226, eK, eM, vpS A1 rfl, f0, f, e]
  have f1 := decide_eq_false t1
  have N1 := FV_named c h
  have N2 := FV_named c s
  cases n1 : nmB c h with
  | false =>
    have e : fitsM c ps ⟨t, h, s⟩ = false := by unfold fitsM; simp only; rw [n1]; simp
    unfold nmB at n1; rw [n1] at N1
    refine FV_ok (F_ok PP226 rfl ⟨by simp [ir226], by simp⟩ ?_)
    simp -implicitDefEqProofs only [go_sem, ir226, eK, eM, vpS A1 rfl, f0, f1, vpS N1 rfl, e]
  | true =>
  cases n2 : nmB c s with
  | false =>
    have e : fitsM c ps ⟨t, h, s⟩ = false := by unfold fitsM; simp only; rw [n2]; simp
    unfold nmB at n1 n2; rw [n1] at N1; rw [n2] at N2
    refine FV_ok (F_ok PP226 rfl ⟨by simp [ir226], by simp⟩ ?_)
    simp -implicitDefEqProofs only [go_sem, ir226, eK, eM, vpS A1 rfl, f0, f1, vpS N1 rfl, vpS N2 rfl, e]
  | true =>
  have hb : fitsM c ps ⟨t, h, s⟩ = (stepB c (plc ps t.toNat) ⟨t, h, s⟩ && (if h = (plc ps t.toNat).home then ldB c ps s (ten c t).shadow else ldB c ps h (ten c t).load)) := by
    unfold fitsM; simp only; rw [hf, n1, n2, decide_eq_true (show 0 ≤ t by omega), decide_eq_true (show t < (ps.length : Int) by omega)]; rfl
  unfold nmB at n1 n2
  simp only [Bool.and_eq_true, decide_eq_true_eq] at n1 n2
  obtain ⟨k, rfl⟩ : ∃ k : Nat, t = k := ⟨t.toNat, by omega⟩
  have hk : k < ps.length := by omega
  have K := fits_core c hc ps hfit k hk h s n1 n2
  rw [hb]
  simp only [Int.toNat_natCast]
  exact K
end Go.Proofs.Cp
