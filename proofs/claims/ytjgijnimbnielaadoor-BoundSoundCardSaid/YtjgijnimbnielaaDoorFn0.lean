/- What the functions answer (part 0). -/
import Derived.Test.YtjgijnimbnielaaDoorPP
set_option linter.unusedSimpArgs false
set_option linter.unusedVariables false
set_option maxRecDepth 100000
namespace Go.Proofs.Cp
open Go
theorem FV_of {P : Prog} {sh : Nat → Bool} {g : Nat} {args : List DV} {d e : DV} {H : VHeap} (h : F P sh g args [] 0 = some (d, H)) (hd : frzD H 6 d = some e) : FV P sh g args = some e := by
  unfold FV; rw [h]; exact hd
theorem FV_I {P : Prog} {sh : Nat → Bool} {g : Nat} {args : List DV} {n : Int} {H : VHeap} (h : F P sh g args [] 0 = some (dI n, H)) : FV P sh g args = some (dI n) := FV_of h rfl
theorem FV_B {P : Prog} {sh : Nat → Bool} {g : Nat} {args : List DV} {b : Bool} {H : VHeap} (h : F P sh g args [] 0 = some (dB b, H)) : FV P sh g args = some (dB b) := FV_of h rfl
theorem hs_self {H : VHeap} {b : Nat} (hb : b < H.length) : hs H b (hg H b) = H := by
  apply VHeap.ext'
  · rw [hs_len]; omega
  · intro c
    rw [hg_hs]; split
    · rename_i h; rw [h]
    · rfl
theorem hs_hs (H : VHeap) (b : Nat) (x y : VB) : hs (hs H b x) b y = hs H b y := by
  apply VHeap.ext'
  · rw [hs_len, hs_len, hs_len]; omega
  · intro c
    rw [hg_hs, hg_hs, hg_hs]; split <;> rfl
theorem hg_lt {H : VHeap} {b : Nat} (h : (hg H b).live = true) : b < H.length := by
  rcases Nat.lt_or_ge b H.length with h1 | h1
  · exact h1
  · rw [hg_ge H h1] at h; cases h
/-- A whole number of 64 bits. -/
def I64 (x : Int) : Prop := -9223372036854775808 ≤ x ∧ x ≤ 9223372036854775807
def I64s (l : List Int) : Prop := ∀ x, x ∈ l → I64 x

theorem F_Mod (v n : Int) (hv : I64 v) (h3 : 0 < n) (h4 : n ≤ 4611686018427387904) : F PP shF 16 [dI v, dI n] [] 0 = some (dI (v % n), []) := by
  obtain ⟨h1, h2⟩ := hv
  rw [F_fun PP16 rfl ⟨by simp [ir16], by simp⟩]
  have hn : n ≠ 0 := by omega
  simp -implicitDefEqProofs only [go_sem, ir16, if_neg hn]
  have hlt := Int.tmod_lt_of_pos v h3
  have hge : -n < v.tmod n := by
    have := Int.lt_tmod_of_pos v h3
    exact this
  rw [w64 (by omega) (by omega)]
  congr 4
  rcases Int.le_total 0 v with h | h
  · rw [Int.tmod_eq_emod_of_nonneg h, Int.tmod_eq_emod_of_nonneg (by have := Int.emod_nonneg v hn; omega)]
    simp
  · rw [Int.tmod_eq_emod_of_nonneg (by omega)]
    rw [Int.tmod_eq_emod]
    split
    · simp
    · have : (n.natAbs : Int) = n := by omega
      simp [this, Int.sub_add_cancel]
theorem FV_Mod (v n : Int) (hv : I64 v) (h3 : 0 < n) (h4 : n ≤ 4611686018427387904) : FV PP shF 16 [dI v, dI n] = some (dI (v % n)) := FV_of (F_Mod v n hv h3 h4) rfl
theorem FV_Between (v low high : Int) (hv : I64 v) (h0 : -1000000000 ≤ low) (h1 : low ≤ high) (h2 : high ≤ 1000000000) : FV PP shF 15 [dI v, dI low, dI high] = some (dI (low + v % (high - low + 1))) := by
  refine FV_I (H := []) ?_
  rw [F_fun PP15 rfl ⟨by simp [ir15], by simp⟩]
  have e1 : IntKind.wrap .i64 (high - low) = high - low := w64 (by omega) (by omega)
  have e2 : IntKind.wrap .i64 (high - low + 1) = high - low + 1 := w64 (by omega) (by omega)
  have hm := Int.emod_lt_of_pos v (show 0 < high - low + 1 by omega)
  have hm0 := Int.emod_nonneg v (show high - low + 1 ≠ 0 by omega)
  have e3 : IntKind.wrap .i64 (low + v % (high - low + 1)) = low + v % (high - low + 1) := w64 (by omega) (by omega)
  simp -implicitDefEqProofs only [go_sem, ir15, e1, e2, vpS (FV_Mod _ _ hv (show 0 < high - low + 1 by omega) (by omega)) rfl, e3]
theorem FV_Light (l : List Int) : FV PP shF 11 [dL l] = some (dB (decide (l.length ≤ 200))) := by
  refine FV_B (H := []) ?_
  rw [F_fun PP11 rfl ⟨by simp [ir11], by simp⟩]
  simp only [ir11, go_sem, ↓reduceIte, Nat.reduceEqDiff, reduceCtorEq, List.length_map]
  simp
  omega

/-- A tape. -/
abbrev tapeB (ver : Nat) (L : List Int) (i : Nat) : VB := ⟨ver, 0, true, [[dL L, dI (i : Nat)]]⟩
theorem Next_ex (L : List Int) (i : Nat) (n : Int) (hL : I64s L) (hi : i < 1000000000) (h0 : 0 < n) (hn : n ≤ 1073741824) :
    ∃ (v : Int) (i' : Nat), 0 ≤ v ∧ v < n ∧ i ≤ i' ∧ i' ≤ i + 1 ∧ ∀ (H : VHeap) (b ver base : Nat), hg H b = tapeB ver L i → H.length ≤ base →
      F PP shF 50 [.mp b ver 0 0, dI n] H base = some (dI v, hs H b (tapeB ver L i')) := by
  by_cases hL0 : L = []
  · subst hL0
    refine ⟨0, i, by omega, h0, by omega, by omega, fun H b ver base hb hbase => ?_⟩
    have hself : hs H b (tapeB ver [] i) = H := by rw [← hb]; exact hs_self (hg_lt (by rw [hb]))
    rw [F_fun PP50 rfl ⟨by simp [ir50], by simpa using hbase⟩, hself]
    simp -implicitDefEqProofs only [go_sem, ir50, hb, List.map_nil]
  · have hl : L.length ≠ 0 := by cases L <;> simp_all
    have e1 : ((L.length : Int) == 0) = false := by simp; exact hL0
    have e2 : ¬ (L.length : Int) = 0 := by omega
    have e3 : (i : Int).tmod L.length = ((i % L.length : Nat) : Int) := by rw [Int.tmod_eq_emod_of_nonneg (by omega)]; rfl
    have e4 : (i : Int).tdiv L.length = ((i / L.length : Nat) : Int) := by rw [Int.tdiv_eq_ediv_of_nonneg (by omega)]; rfl
    have hlt : i % L.length < L.length := Nat.mod_lt _ (by omega)
    have e5 : (0 : Int) ≤ ((i % L.length : Nat) : Int) ∧ ((i % L.length : Nat) : Int) < (L.length : Int) := by omega
    have e6 : (L.map fun z => [dI z])[i % L.length]? = some [dI (L.getD (i % L.length) 0)] := by
      rw [List.getElem?_map, List.getElem?_eq_getElem hlt]; simp [List.getD_eq_getElem?_getD, List.getElem?_eq_getElem hlt]
    have hd : i / L.length ≤ i := Nat.div_le_self _ _
    have e7 : IntKind.wrap .i64 ((i : Int) + 1) = ((i + 1 : Nat) : Int) := by rw [w64 (by omega) (by omega)]; rfl
    have hx := hL (L.getD (i % L.length) 0) (by rw [List.getD_eq_getElem?_getD, List.getElem?_eq_getElem hlt]; exact List.getElem_mem hlt)
    refine ⟨((L.getD (i % L.length) 0) % 1073741824 + ((i / L.length : Nat) : Int) * 7) % n, i + 1, Int.emod_nonneg _ (by omega), Int.emod_lt_of_pos _ h0, by omega, by omega, fun H b ver base hb hbase => ?_⟩
    rw [F_fun PP50 rfl ⟨by simp [ir50], by simpa using hbase⟩]
    generalize i / L.length = q at *
    have e10 : IntKind.wrap .i64 (q : Int) = (q : Int) := w64 (by omega) (by omega)
    have e8 : IntKind.wrap .i64 ((q : Int) * 7) = (q : Int) * 7 := w64 (by omega) (by omega)
    have hm := Int.emod_lt_of_pos (L.getD (i % L.length) 0) (show (0 : Int) < 1073741824 by omega)
    have hm0 := Int.emod_nonneg (L.getD (i % L.length) 0) (show (1073741824 : Int) ≠ 0 by omega)
    have e9 : IntKind.wrap .i64 ((L.getD (i % L.length) 0) % 1073741824 + (q : Int) * 7) = (L.getD (i % L.length) 0) % 1073741824 + (q : Int) * 7 := w64 (by omega) (by omega)
    simp -implicitDefEqProofs only [go_sem, ir50, hb, reduceCtorEq, e1, e2, e3, e4, e5, e6, e7, e8, e9, e10, Int.toNat_natCast, List.length_map,
      vpS (FV_Mod _ _ hx (show (0 : Int) < 1073741824 by omega) (by omega)) rfl, vpS (FV_Mod ((L.getD (i % L.length) 0) % 1073741824 + (q : Int) * 7) n ⟨by omega, by omega⟩ h0 (by omega)) rfl]
theorem Range_ex (L : List Int) (i : Nat) (low high : Int) (hL : I64s L) (hi : i < 1000000000) (hl : -1000 ≤ low) (h0 : low ≤ high) (hn : high ≤ 1073740000) :
    ∃ (v : Int) (i' : Nat), low ≤ v ∧ v ≤ high ∧ i ≤ i' ∧ i' ≤ i + 1 ∧ ∀ (H : VHeap) (b ver base : Nat), hg H b = tapeB ver L i → H.length ≤ base →
      F PP shF 61 [.mp b ver 0 0, dI low, dI high] H base = some (dI v, hs H b (tapeB ver L i')) := by
  obtain ⟨v, i', h1, h2, h3, h4, h5⟩ := Next_ex L i (high - low + 1) hL hi (by omega) (by omega)
  refine ⟨low + v, i', by omega, by omega, h3, h4, fun H b ver base hb hbase => ?_⟩
  have e1 : IntKind.wrap .i64 (high - low) = high - low := w64 (by omega) (by omega)
  have e2 : IntKind.wrap .i64 (high - low + 1) = high - low + 1 := w64 (by omega) (by omega)
  have e3 : IntKind.wrap .i64 (low + v) = low + v := w64 (by omega) (by omega)
  rw [F_fun PP61 rfl ⟨by simp [ir61], by simpa using hbase⟩]
  simp -implicitDefEqProofs only [go_sem, ir61, hb, e1, e2, h5, e3]
theorem Yes_ex (L : List Int) (i : Nat) (n : Int) (hL : I64s L) (hi : i < 1000000000) (h0 : 0 < n) (hn : n ≤ 1073741824) :
    ∃ (v : Bool) (i' : Nat), i ≤ i' ∧ i' ≤ i + 1 ∧ ∀ (H : VHeap) (b ver base : Nat), hg H b = tapeB ver L i → H.length ≤ base →
      F PP shF 62 [.mp b ver 0 0, dI n] H base = some (dB v, hs H b (tapeB ver L i')) := by
  obtain ⟨v, i', h1, h2, h3, h4, h5⟩ := Next_ex L i n hL hi h0 hn
  refine ⟨v == 0, i', h3, h4, fun H b ver base hb hbase => ?_⟩
  rw [F_fun PP62 rfl ⟨by simp [ir62], by simpa using hbase⟩]
  simp -implicitDefEqProofs only [go_sem, ir62, hb, h5]
/-- A new tape: one block. -/
theorem F_New (L : List Int) : F PP shF 48 [dL L] [] 0 = some (.mp 5 1 0 0, hs [] 5 (tapeB 1 L 0)) := by
  rw [F_fun PP48 rfl ⟨by simp [ir48], by simp⟩]
  simp -implicitDefEqProofs only [go_sem, ir48]
  rfl
theorem vp_New (L : List Int) (base d : Nat) (H : VHeap) : vpure PP shF base (some d) 48 true false H [dL L] = some (.mp (base + d) ((hg H (base + d)).ver + 1) 0 0, some (hs H (base + d) (tapeB ((hg H (base + d)).ver + 1) L 0))) := by
  unfold vpure
  rw [F_New]
  simp -implicitDefEqProofs only [go_sem, vback]
  rfl
structure Cell where
  zone : Int
  cap : Int
structure Ten where
  load : Int
  shadow : Int
  prio : Int
  lag : Int
  allowed : Int
  group : Int
  noisy : Bool
structure Ver where
  low : Int
  high : Int
structure Conf where
  regions : Int
  zones : List Int
  cells : List Cell
  tens : List Ten
  vers : List Ver
  reps : List Int
  obs : List Int
  blast : Int
  lease : Int
  bake : Int
abbrev eI (z : Int) : List DV := [dI z]
abbrev eC (c : Cell) : List DV := [dI c.zone, dI c.cap]
abbrev eT (t : Ten) : List DV := [dI t.load, dI t.shadow, dI t.prio, dI t.lag, dI t.allowed, dI t.group, dB t.noisy]
abbrev eV (v : Ver) : List DV := [dI v.low, dI v.high]
abbrev eK (c : Conf) : List DV := [dI c.regions, .sl (c.zones.map eI), .sl (c.cells.map eC), .sl (c.tens.map eT), .sl (c.vers.map eV), .sl (c.reps.map eI), .sl (c.obs.map eI), dI c.blast, dI c.lease, dI c.bake]
structure Plc where
  home : Int
  sby : Int
structure Prob where
  conf : Conf
  cells : Int
  head : Bool
abbrev eP (p : Plc) : List DV := [dI p.home, dI p.sby]
abbrev eQ (p : Prob) : List DV := [dI p.conf.regions, .sl (p.conf.zones.map eI), .sl (p.conf.cells.map eC), .sl (p.conf.tens.map eT), .sl (p.conf.vers.map eV), .sl (p.conf.reps.map eI), .sl (p.conf.obs.map eI), dI p.conf.blast, dI p.conf.lease, dI p.conf.bake, dI p.cells, dB p.head]
/-- Where Config stands. -/
structure CS (L : List Int) (s : VSt) (i : Nat) (r bl le ba : Int) (zv cv tv vv rv ov : DV) : Prop where
  e2 : gt .bad s.E 2 = .mp 2 1 0 0
  e3 : gt .bad s.E 3 = .mp 15 1 0 0
  e4 : gt .bad s.E 4 = .mp 4 1 0 0
  h2 : hg s.H 2 = ⟨1, 0, true, [[dI 0, .lit (.slice none 0 0), .lit (.slice none 0 0), .lit (.slice none 0 0), .lit (.slice none 0 0), .lit (.slice none 0 0), .lit (.slice none 0 0), dI 0, dI 0, dI 0]]⟩
  h4 : hg s.H 4 = ⟨1, 0, true, [[dI r, zv, cv, tv, vv, rv, ov, dI bl, dI le, dI ba]]⟩
  h15 : hg s.H 15 = tapeB 1 L i
  hi : i < 100000
/-- The zones: k of them are made. -/
def L0 (L : List Int) (r bl le ba : Int) (k : Nat) (s : VSt) : Prop := ∃ (zs : List Int) (i : Nat) (zv : DV), CS L s i r bl le ba zv (.lit (.slice none 0 0)) (.lit (.slice none 0 0)) (.lit (.slice none 0 0)) (.lit (.slice none 0 0)) (.lit (.slice none 0 0)) ∧
  SlB s.H 49 1 (zs.map eI) zv ∧ i ≤ 10 + k ∧ gt .bad s.E 5 = dI (k : Nat) ∧ zs.length = k ∧ k ≤ 6 ∧ ∀ z, z ∈ zs → 0 ≤ z ∧ z < r
def Q0 (L : List Int) (r bl le ba : Int) (e : Ex) (s : VSt) : Prop := e = .exit 0 ∧ ∃ (zs : List Int) (i : Nat) (zv : DV), CS L s i r bl le ba zv (.lit (.slice none 0 0)) (.lit (.slice none 0 0)) (.lit (.slice none 0 0)) (.lit (.slice none 0 0)) (.lit (.slice none 0 0)) ∧
  SlB s.H 49 1 (zs.map eI) zv ∧ i ≤ 20 ∧ r ≤ (zs.length : Int) ∧ zs.length ≤ 6 ∧ ∀ z, z ∈ zs → 0 ≤ z ∧ z < r
theorem config_l0 (L : List Int) (hL : I64s L) (r bl le ba : Int) (hr : 1 ≤ r ∧ r ≤ 3) : ∀ (k : Nat) s, L0 L r bl le ba k s → Ok (R PP shF 0 182 (.loop ir28_l0) s) (Q0 L r bl le ba) := by
  refine Ok_up 6 (L0 L r bl le ba) fun k s hI => ?_
  obtain ⟨zs, i, zv, C, hz, hi, e5, len, hk, rg⟩ := hI
  obtain ⟨v, i', hv1, hv2, hF⟩ := Yes_ex L i 3 hL (by have := C.hi; omega) (by omega) (by omega)
  obtain ⟨E, H⟩ := s
  obtain ⟨e2, e3, e4, h2, h4, h15, hi0⟩ := C
  simp only at e2 e3 e4 h2 h4 h15 e5 hz
  have w1 : IntKind.wrap .i64 ((k : Int) + 1) = ((k + 1 : Nat) : Int) := by rw [w64 (by omega) (by omega)]; rfl
  have hr0 : ¬ r = 0 := by omega
  have hm : ∀ z, z ∈ zs ++ [(k : Int).tmod r] → 0 ≤ z ∧ z < r := by
    intro z hz
    rcases List.mem_append.1 hz with hz | hz
    · exact rg z hz
    · simp at hz; subst hz
      exact ⟨Int.tmod_nonneg _ (by omega), Int.tmod_lt_of_pos _ (by omega)⟩
  have c1 : ¬ zs.length + 1 ≤ zs.length := by omega
  have c2 : (zs.length + 1) * 8 ≤ 140737488355328 ∧ zs.length ≤ 9223372036854775806 := by omega
  have ht : List.take zs.length (zs.map eI) = zs.map eI := List.take_of_length_le (by simp)
  by_cases hlt : (k : Int) < r
  · have d1 : decide ((k : Int) < r) = true := by simpa using hlt
    rcases hz with ⟨hz, rfl⟩ | ⟨hz, ver, rfl, hb⟩
    · simp -implicitDefEqProofs only [go_sem, ir28_l0, e2, e3, e4, e5, h2, h4, h15, d1, w1, hr0]
      refine .next (by omega) ⟨zs ++ [(k : Int).tmod r], i, .ms 49 ((hg H 49).ver + 1) 0 1 1, ⟨?_, ?_, ?_, ?_, ?_, ?_, hi0⟩, SlB.mk ?_ ?_ ?_, by omega, ?_, by simp [len], by omega, hm⟩ <;> simp -implicitDefEqProofs only [go_sem, e2, e3, e4, e5, h2, h4, h15, w1, List.map_append, hz]
    · simp -implicitDefEqProofs only [go_sem, ir28_l0, e2, e3, e4, e5, h2, h4, h15, d1, w1, hr0, hb, c1, c2, ht]
      refine .next (by omega) ⟨zs ++ [(k : Int).tmod r], i, .ms 49 (ver + 1 + 1) 0 (zs.length + 1) (zs.length + 1), ⟨?_, ?_, ?_, ?_, ?_, ?_, hi0⟩, SlB.mk ?_ ?_ ?_, by omega, ?_, by simp [len], by omega, hm⟩ <;> simp -implicitDefEqProofs only [go_sem, e2, e3, e4, e5, h2, h4, h15, w1, List.map_append, List.length_append]
  · have d1 : decide ((k : Int) < r) = false := by simpa using hlt
    cases v with
    | false =>
      simp -implicitDefEqProofs only [go_sem, ir28_l0, e2, e3, e4, e5, h2, h4, h15, d1, w1, hr0, hF]
      refine .exit ⟨rfl, zs, i', zv, ⟨?_, ?_, ?_, ?_, ?_, ?_, by omega⟩, hz.keep ?_, by omega, by omega, by omega, rg⟩ <;> simp -implicitDefEqProofs only [go_sem, e2, e3, e4, e5, h2, h4, h15, w1]
    | true =>
      by_cases hk6 : (k : Int) < 6
      · have d2 : decide ((k : Int) < 6) = true := by simpa using hk6
        rcases hz with ⟨hz, rfl⟩ | ⟨hz, ver, rfl, hb⟩
        · simp -implicitDefEqProofs only [go_sem, ir28_l0, e2, e3, e4, e5, h2, h4, h15, d1, d2, w1, hr0, hF]
          refine .next (by omega) ⟨zs ++ [(k : Int).tmod r], i', .ms 49 ((hg H 49).ver + 1) 0 1 1, ⟨?_, ?_, ?_, ?_, ?_, ?_, by omega⟩, SlB.mk ?_ ?_ ?_, by omega, ?_, by simp [len], by omega, hm⟩ <;> simp -implicitDefEqProofs only [go_sem, e2, e3, e4, e5, h2, h4, h15, w1, List.map_append, hz]
        · simp -implicitDefEqProofs only [go_sem, ir28_l0, e2, e3, e4, e5, h2, h4, h15, d1, d2, w1, hr0, hb, c1, c2, ht, hF]
          refine .next (by omega) ⟨zs ++ [(k : Int).tmod r], i', .ms 49 (ver + 1 + 1) 0 (zs.length + 1) (zs.length + 1), ⟨?_, ?_, ?_, ?_, ?_, ?_, by omega⟩, SlB.mk ?_ ?_ ?_, by omega, ?_, by simp [len], by omega, hm⟩ <;> simp -implicitDefEqProofs only [go_sem, e2, e3, e4, e5, h2, h4, h15, w1, List.map_append, List.length_append]
      · have d2 : decide ((k : Int) < 6) = false := by simpa using hk6
        simp -implicitDefEqProofs only [go_sem, ir28_l0, e2, e3, e4, e5, h2, h4, h15, d1, d2, w1, hr0, hF]
        refine .exit ⟨rfl, zs, i', zv, ⟨?_, ?_, ?_, ?_, ?_, ?_, by omega⟩, hz.keep ?_, by omega, by omega, by omega, rg⟩ <;> simp -implicitDefEqProofs only [go_sem, e2, e3, e4, e5, h2, h4, h15, w1]
abbrev nilV : DV := .lit (.slice none 0 0)
def L1 (L : List Int) (r bl le ba : Int) (zs : List Int) (k : Nat) (s : VSt) : Prop := ∃ (cs : List Cell) (i : Nat) (zv cv : DV), CS L s i r bl le ba zv cv nilV nilV nilV nilV ∧
  SlB s.H 49 1 (zs.map eI) zv ∧ SlB s.H 78 2 (cs.map eC) cv ∧ i ≤ 30 + 2 * k ∧ gt .bad s.E 6 = dI (k : Nat) ∧ cs.length = k ∧ k ≤ 7 ∧ ∀ c, c ∈ cs → 0 ≤ c.zone ∧ c.zone < zs.length ∧ 10 ≤ c.cap ∧ c.cap ≤ 40
def Q1 (L : List Int) (r bl le ba : Int) (zs : List Int) (e : Ex) (s : VSt) : Prop := e = .exit 2 ∧ ∃ (cs : List Cell) (i : Nat) (zv cv : DV), CS L s i r bl le ba zv cv nilV nilV nilV nilV ∧
  SlB s.H 49 1 (zs.map eI) zv ∧ SlB s.H 78 2 (cs.map eC) cv ∧ i ≤ 60 ∧ zs.length ≤ cs.length ∧ cs.length ≤ 7 ∧ ∀ c, c ∈ cs → 0 ≤ c.zone ∧ c.zone < zs.length ∧ 10 ≤ c.cap ∧ c.cap ≤ 40
theorem config_l1 (L : List Int) (hL : I64s L) (r bl le ba : Int) (zs : List Int) (hz0 : 1 ≤ zs.length) (hz6 : zs.length ≤ 6) : ∀ (k : Nat) s, L1 L r bl le ba zs k s → Ok (R PP shF 0 182 (.loop ir28_l1) s) (Q1 L r bl le ba zs) := by
  refine Ok_up 7 (L1 L r bl le ba zs) fun k s hI => ?_
  obtain ⟨cs, i, zv, cv, C, hz, hc, hi, e6, len, hk, rg⟩ := hI
  obtain ⟨v, i', hv1, hv2, hF⟩ := Yes_ex L i 2 hL (by have := C.hi; omega) (by omega) (by omega)
  obtain ⟨E, H⟩ := s
  obtain ⟨e2, e3, e4, h2, h4, h15, hi0⟩ := C
  simp only at e2 e3 e4 h2 h4 h15 e6 hz hc
  have w1 : IntKind.wrap .i64 ((k : Int) + 1) = ((k + 1 : Nat) : Int) := by rw [w64 (by omega) (by omega)]; rfl
  have hr0 : ¬ (zs.length : Int) = 0 := by omega
  have c1 : ¬ cs.length + 1 ≤ cs.length := by omega
  have c2 : (cs.length + 1) * 16 ≤ 140737488355328 ∧ cs.length ≤ 9223372036854775806 := by omega
  have ht : List.take cs.length (cs.map eC) = cs.map eC := List.take_of_length_le (by simp)
  rcases hz with ⟨hz, rfl⟩ | ⟨hz, verz, rfl, hbz⟩
  · exfalso
    have : zs = [] := by simpa using hz
    subst this; simp at hz0
  have hz : SlB H 49 1 (zs.map eI) (.ms 49 verz 0 (zs.map eI).length (zs.map eI).length) := .inr ⟨hz, verz, rfl, hbz⟩
  have hm : ∀ c : Int, 1 ≤ c → c ≤ 4 → ∀ x : Cell, x ∈ cs ++ [⟨(k : Int).tmod zs.length, c * 10⟩] → 0 ≤ x.zone ∧ x.zone < zs.length ∧ 10 ≤ x.cap ∧ x.cap ≤ 40 := by
    intro c hc1 hc2 x hx
    rcases List.mem_append.1 hx with hx | hx
    · exact rg x hx
    · simp at hx; subst hx
      have q1 : 0 ≤ (k : Int).tmod zs.length := Int.tmod_nonneg _ (by omega)
      have q2 : (k : Int).tmod zs.length < zs.length := Int.tmod_lt_of_pos _ (by omega)
      exact ⟨q1, q2, by simp only; omega, by simp only; omega⟩
  by_cases hlt : (k : Int) < zs.length
  · have d1 : decide ((k : Int) < zs.length) = true := by simpa using hlt
    obtain ⟨c, j, hc1, hc2, hj1, hj2, hG⟩ := Range_ex L i 1 4 hL (by omega) (by omega) (by omega) (by omega)
    have w2 : IntKind.wrap .i64 (c * 10) = c * 10 := w64 (by omega) (by omega)
    rcases hc with ⟨hc, rfl⟩ | ⟨hc, ver, rfl, hb⟩
    · simp -implicitDefEqProofs only [go_sem, ir28_l1, e2, e3, e4, e6, h2, h4, h15, hbz, d1, w1, w2, hr0, hG]
      refine .next (by omega) ⟨cs ++ [⟨(k : Int).tmod zs.length, c * 10⟩], j, _, .ms 78 ((hg H 78).ver + 1) 0 1 1, ⟨?_, ?_, ?_, ?_, ?_, ?_, by omega⟩, hz.keep ?_, SlB.mk ?_ ?_ ?_, by omega, ?_, by simp [len], by omega, hm c hc1 hc2⟩ <;> simp -implicitDefEqProofs only [go_sem, e2, e3, e4, e6, h2, h4, h15, w1, List.map_append, hc]
    · simp -implicitDefEqProofs only [go_sem, ir28_l1, e2, e3, e4, e6, h2, h4, h15, hbz, d1, w1, w2, hr0, hG, hb, c1, c2, ht]
      refine .next (by omega) ⟨cs ++ [⟨(k : Int).tmod zs.length, c * 10⟩], j, _, .ms 78 (ver + 1 + 1) 0 (cs.length + 1) (cs.length + 1), ⟨?_, ?_, ?_, ?_, ?_, ?_, by omega⟩, hz.keep ?_, SlB.mk ?_ ?_ ?_, by omega, ?_, by simp [len], by omega, hm c hc1 hc2⟩ <;> simp -implicitDefEqProofs only [go_sem, e2, e3, e4, e6, h2, h4, h15, w1, List.map_append, List.length_append]
  · have d1 : decide ((k : Int) < zs.length) = false := by simpa using hlt
    cases v with
    | false =>
      simp -implicitDefEqProofs only [go_sem, ir28_l1, e2, e3, e4, e6, h2, h4, h15, hbz, d1, w1, hr0, hF]
      refine .exit ⟨rfl, cs, i', _, cv, ⟨?_, ?_, ?_, ?_, ?_, ?_, by omega⟩, hz.keep ?_, hc.keep ?_, by omega, by omega, by omega, rg⟩ <;> simp -implicitDefEqProofs only [go_sem, e2, e3, e4, e6, h2, h4, h15, w1]
    | true =>
      by_cases hk6 : (k : Int) < 7
      · have d2 : decide ((k : Int) < 7) = true := by simpa using hk6
        obtain ⟨c, j, hc1, hc2, hj1, hj2, hG⟩ := Range_ex L i' 1 4 hL (by omega) (by omega) (by omega) (by omega)
        have w2 : IntKind.wrap .i64 (c * 10) = c * 10 := w64 (by omega) (by omega)
        rcases hc with ⟨hc, rfl⟩ | ⟨hc, ver, rfl, hb⟩
        · simp -implicitDefEqProofs only [go_sem, ir28_l1, e2, e3, e4, e6, h2, h4, h15, hbz, d1, d2, w1, w2, hr0, hF, hG]
          refine .next (by omega) ⟨cs ++ [⟨(k : Int).tmod zs.length, c * 10⟩], j, _, .ms 78 ((hg H 78).ver + 1) 0 1 1, ⟨?_, ?_, ?_, ?_, ?_, ?_, by omega⟩, hz.keep ?_, SlB.mk ?_ ?_ ?_, by omega, ?_, by simp [len], by omega, hm c hc1 hc2⟩ <;> simp -implicitDefEqProofs only [go_sem, e2, e3, e4, e6, h2, h4, h15, w1, List.map_append, hc]
        · simp -implicitDefEqProofs only [go_sem, ir28_l1, e2, e3, e4, e6, h2, h4, h15, hbz, d1, d2, w1, w2, hr0, hF, hG, hb, c1, c2, ht]
          refine .next (by omega) ⟨cs ++ [⟨(k : Int).tmod zs.length, c * 10⟩], j, _, .ms 78 (ver + 1 + 1) 0 (cs.length + 1) (cs.length + 1), ⟨?_, ?_, ?_, ?_, ?_, ?_, by omega⟩, hz.keep ?_, SlB.mk ?_ ?_ ?_, by omega, ?_, by simp [len], by omega, hm c hc1 hc2⟩ <;> simp -implicitDefEqProofs only [go_sem, e2, e3, e4, e6, h2, h4, h15, w1, List.map_append, List.length_append]
      · have d2 : decide ((k : Int) < 7) = false := by simpa using hk6
        simp -implicitDefEqProofs only [go_sem, ir28_l1, e2, e3, e4, e6, h2, h4, h15, hbz, d1, d2, w1, hr0, hF]
        refine .exit ⟨rfl, cs, i', _, cv, ⟨?_, ?_, ?_, ?_, ?_, ?_, by omega⟩, hz.keep ?_, hc.keep ?_, by omega, by omega, by omega, rg⟩ <;> simp -implicitDefEqProofs only [go_sem, e2, e3, e4, e6, h2, h4, h15, w1]
/-- All regions, as a set. -/
def allR (r : Int) : Int := 2 ^ r.toNat - 1
structure TenOk (r : Int) (t : Ten) : Prop where
  l0 : 1 ≤ t.load
  l1 : t.load ≤ 12
  s0 : 0 ≤ t.shadow
  s1 : t.shadow ≤ t.load
  p0 : 0 ≤ t.prio
  p1 : t.prio ≤ 3
  g0 : -1 ≤ t.lag
  g1 : t.lag ≤ 3
  a0 : 1 ≤ t.allowed
  a1 : t.allowed ≤ allR r
  u0 : 0 ≤ t.group
  u1 : t.group ≤ 2
/-- Zones and cells are there. -/
structure ZC (r : Int) (zs : List Int) (cs : List Cell) (H : VHeap) (zv cv : DV) : Prop where
  z : SlB H 49 1 (zs.map eI) zv
  c : SlB H 78 2 (cs.map eC) cv
theorem ZC.keep {r : Int} {zs : List Int} {cs : List Cell} {H H' : VHeap} {zv cv : DV} (h : ZC r zs cs H zv cv) (h1 : hg H' 49 = hg H 49) (h2 : hg H' 78 = hg H 78) : ZC r zs cs H' zv cv := ⟨h.z.keep h1, h.c.keep h2⟩
def L2 (L : List Int) (r bl le ba : Int) (zs : List Int) (cs : List Cell) (k : Nat) (s : VSt) : Prop := ∃ (ts : List Ten) (i : Nat) (zv cv tv : DV), CS L s i r bl le ba zv cv tv nilV nilV nilV ∧ ZC r zs cs s.H zv cv ∧
  SlB s.H 121 7 (ts.map eT) tv ∧ i + 10 * k ≤ 120 ∧ gt .bad s.E 7 = dI (k : Nat) ∧ ts.length + k ≤ 5 ∧ ∀ t, t ∈ ts → TenOk r t
def Q2 (L : List Int) (r bl le ba : Int) (zs : List Int) (cs : List Cell) (e : Ex) (s : VSt) : Prop := e = .exit 4 ∧ ∃ (ts : List Ten) (i : Nat) (zv cv tv : DV), CS L s i r bl le ba zv cv tv nilV nilV nilV ∧ ZC r zs cs s.H zv cv ∧
  SlB s.H 121 7 (ts.map eT) tv ∧ i ≤ 120 ∧ ts.length ≤ 5 ∧ ∀ t, t ∈ ts → TenOk r t
theorem config_l2 (L : List Int) (hL : I64s L) (r bl le ba : Int) (hr : 1 ≤ r ∧ r ≤ 3) (zs : List Int) (cs : List Cell) : ∀ (k : Nat) s, L2 L r bl le ba zs cs k s → Ok (R PP shF 0 182 (.loop ir28_l2) s) (Q2 L r bl le ba zs cs) := by
  refine Ok_dn (L2 L r bl le ba zs cs) fun k s hI => ?_
  obtain ⟨ts, i, zv, cv, tv, C, hzc, ht, hi, e7, len, rg⟩ := hI
  obtain ⟨E, H⟩ := s
  obtain ⟨e2, e3, e4, h2, h4, h15, hi0⟩ := C
  simp only at e2 e3 e4 h2 h4 h15 e7 hzc ht
  by_cases hk : k = 0
  · subst hk
    have d1 : decide (((0 : Nat) : Int) > 0) = false := by simp
    simp -implicitDefEqProofs only [go_sem, ir28_l2, e7]
    refine .exit ⟨rfl, ts, i, zv, cv, tv, ⟨?_, ?_, ?_, ?_, ?_, ?_, by omega⟩, hzc.keep ?_ ?_, ht.keep ?_, by omega, by omega, rg⟩ <;> simp -implicitDefEqProofs only [go_sem, e2, e3, e4, h2, h4, h15]
  · have d1 : decide (0 < (k : Int)) = true := by simp; omega
    have w1 : IntKind.wrap .i64 ((k : Int) - 1) = ((k - 1 : Nat) : Int) := by rw [w64 (by omega) (by omega)]; omega
    have hA : allR r = 1 ∨ allR r = 3 ∨ allR r = 7 := by
      obtain rfl | rfl | rfl : r = 1 ∨ r = 2 ∨ r = 3 := by omega
      · left; rfl
      · right; left; rfl
      · right; right; rfl
    obtain ⟨v1, i1, a1, b1, c1, d1', F1⟩ := Range_ex L i 1 12 hL (by omega) (by omega) (by omega) (by omega)
    obtain ⟨v2, i2, a2, b2, c2, d2', F2⟩ := Next_ex L i1 (v1 + 1) hL (by omega) (by omega) (by omega)
    obtain ⟨v3, i3, a3, b3, c3, d3', F3⟩ := Next_ex L i2 4 hL (by omega) (by omega) (by omega)
    obtain ⟨v4, i4, a4, b4, c4, d4', F4⟩ := Range_ex L i3 (-1) 3 hL (by omega) (by omega) (by omega) (by omega)
    obtain ⟨v5, i5, a5, b5, c5, d5', F5⟩ := Next_ex L i4 3 hL (by omega) (by omega) (by omega)
    obtain ⟨v6, i6, c6, d6', F6⟩ := Yes_ex L i5 4 hL (by omega) (by omega) (by omega)
    obtain ⟨v7, i7, c7, d7', F7⟩ := Yes_ex L i6 4 hL (by omega) (by omega) (by omega)
    obtain ⟨v8, i8, a8, b8, c8, d8', F8⟩ := Range_ex L i7 1 (allR r) hL (by omega) (by omega) (by omega) (by omega)
    have w2 : IntKind.wrap .i64 (v1 + 1) = v1 + 1 := w64 (by omega) (by omega)
    have cu : IntKind.wrap .u64 r = r := by simp [IntKind.wrap, IntKind.min, IntKind.max, IntKind.signed, IntKind.bits]; omega
    have nr : ¬ r < 0 := by omega
    have wA : IntKind.wrap .i64 (IntKind.wrap .i64 (1 * 2 ^ min r.toNat 64) - 1) = allR r := by
      obtain rfl | rfl | rfl : r = 1 ∨ r = 2 ∨ r = 3 := by omega
      · rfl
      · rfl
      · rfl
    have c1' : ¬ ts.length + 1 ≤ ts.length := by omega
    have c2' : (ts.length + 1) * 56 ≤ 140737488355328 ∧ ts.length ≤ 9223372036854775806 := by omega
    have ht' : List.take ts.length (ts.map eT) = ts.map eT := List.take_of_length_le (by simp)
    have hm : ∀ A : Int, 1 ≤ A → A ≤ allR r → ∀ t, t ∈ ts ++ [⟨v1, v2, v3, v4, A, v5, v6⟩] → TenOk r t := by
      intro A hA1 hA2 t hx
      rcases List.mem_append.1 hx with hx | hx
      · exact rg t hx
      · simp at hx; subst hx
        constructor <;> simp only <;> omega
    cases v7 with
    | false =>
      rcases ht with ⟨ht, rfl⟩ | ⟨ht, ver, rfl, hb⟩
      · simp -implicitDefEqProofs only [go_sem, ir28_l2, e2, e3, e4, e7, h2, h4, h15, d1, w1, F1, F2, F3, F4, F5, F6, F7, w2, cu, nr, wA]
        refine .next (m := k - 1) (by omega) ⟨ts ++ [⟨v1, v2, v3, v4, allR r, v5, v6⟩], i7, _, _, .ms 121 ((hg H 121).ver + 1) 0 1 1, ⟨?_, ?_, ?_, ?_, ?_, ?_, by omega⟩, hzc.keep ?_ ?_, SlB.mk ?_ ?_ ?_, by omega, ?_, by simp; omega, hm _ (by omega) (by omega)⟩ <;> simp -implicitDefEqProofs only [go_sem, e2, e3, e4, e7, h2, h4, h15, w1, List.map_append, ht]
      · simp -implicitDefEqProofs only [go_sem, ir28_l2, e2, e3, e4, e7, h2, h4, h15, d1, w1, F1, F2, F3, F4, F5, F6, F7, w2, cu, nr, wA, hb, c1', c2', ht']
        refine .next (m := k - 1) (by omega) ⟨ts ++ [⟨v1, v2, v3, v4, allR r, v5, v6⟩], i7, _, _, .ms 121 (ver + 1 + 1) 0 (ts.length + 1) (ts.length + 1), ⟨?_, ?_, ?_, ?_, ?_, ?_, by omega⟩, hzc.keep ?_ ?_, SlB.mk ?_ ?_ ?_, by omega, ?_, by simp; omega, hm _ (by omega) (by omega)⟩ <;> simp -implicitDefEqProofs only [go_sem, e2, e3, e4, e7, h2, h4, h15, w1, List.map_append, List.length_append]
    | true =>
      rcases ht with ⟨ht, rfl⟩ | ⟨ht, ver, rfl, hb⟩
      · simp -implicitDefEqProofs only [go_sem, ir28_l2, e2, e3, e4, e7, h2, h4, h15, d1, w1, F1, F2, F3, F4, F5, F6, F7, F8, w2, cu, nr, wA]
        refine .next (m := k - 1) (by omega) ⟨ts ++ [⟨v1, v2, v3, v4, v8, v5, v6⟩], i8, _, _, .ms 121 ((hg H 121).ver + 1) 0 1 1, ⟨?_, ?_, ?_, ?_, ?_, ?_, by omega⟩, hzc.keep ?_ ?_, SlB.mk ?_ ?_ ?_, by omega, ?_, by simp; omega, hm _ (by omega) (by omega)⟩ <;> simp -implicitDefEqProofs only [go_sem, e2, e3, e4, e7, h2, h4, h15, w1, List.map_append, ht]
      · simp -implicitDefEqProofs only [go_sem, ir28_l2, e2, e3, e4, e7, h2, h4, h15, d1, w1, F1, F2, F3, F4, F5, F6, F7, F8, w2, cu, nr, wA, hb, c1', c2', ht']
        refine .next (m := k - 1) (by omega) ⟨ts ++ [⟨v1, v2, v3, v4, v8, v5, v6⟩], i8, _, _, .ms 121 (ver + 1 + 1) 0 (ts.length + 1) (ts.length + 1), ⟨?_, ?_, ?_, ?_, ?_, ?_, by omega⟩, hzc.keep ?_ ?_, SlB.mk ?_ ?_ ?_, by omega, ?_, by simp; omega, hm _ (by omega) (by omega)⟩ <;> simp -implicitDefEqProofs only [go_sem, e2, e3, e4, e7, h2, h4, h15, w1, List.map_append, List.length_append]
/-- Zones, cells and tenants are there. -/
structure ZT (r : Int) (zs : List Int) (cs : List Cell) (ts : List Ten) (H : VHeap) (zv cv tv : DV) : Prop where
  z : SlB H 49 1 (zs.map eI) zv
  c : SlB H 78 2 (cs.map eC) cv
  t : SlB H 121 7 (ts.map eT) tv
theorem ZT.keep {r : Int} {zs : List Int} {cs : List Cell} {ts : List Ten} {H H' : VHeap} {zv cv tv : DV} (h : ZT r zs cs ts H zv cv tv) (h1 : hg H' 49 = hg H 49) (h2 : hg H' 78 = hg H 78) (h3 : hg H' 121 = hg H 121) : ZT r zs cs ts H' zv cv tv := ⟨h.z.keep h1, h.c.keep h2, h.t.keep h3⟩
structure VerOk (v : Ver) : Prop where
  l0 : 0 ≤ v.low
  l1 : v.low ≤ 1
  h0 : v.low ≤ v.high
  h1 : v.high ≤ v.low + 2
/-- The versions lie in one of two blocks. -/
def SlV (H : VHeap) (vs : List Ver) (v : DV) : Prop := vs ≠ [] ∧ ∃ b ver, (b = 126 ∨ b = 145) ∧ v = .ms b ver 0 (vs.map eV).length (vs.map eV).length ∧ hg H b = ⟨ver, 2, true, vs.map eV⟩
theorem SlV.keep {H H' : VHeap} {vs : List Ver} {v : DV} (h : SlV H vs v) (h1 : hg H' 126 = hg H 126) (h2 : hg H' 145 = hg H 145) : SlV H' vs v := by
  obtain ⟨h0, b, ver, hb, hv, hh⟩ := h
  refine ⟨h0, b, ver, hb, hv, ?_⟩
  rcases hb with rfl | rfl
  · rw [h1]; exact hh
  · rw [h2]; exact hh
def L3 (L : List Int) (r bl le ba : Int) (zs : List Int) (cs : List Cell) (ts : List Ten) (k : Nat) (s : VSt) : Prop := ∃ (vs : List Ver) (i : Nat) (zv cv tv vv : DV), CS L s i r bl le ba zv cv tv vv nilV nilV ∧ ZT r zs cs ts s.H zv cv tv ∧
  SlV s.H vs vv ∧ i + 10 * k ≤ 180 ∧ gt .bad s.E 10 = dI (k : Nat) ∧ vs.length + k ≤ 3 ∧ (∀ v, v ∈ vs → VerOk v) ∧ ∀ v, vs.head? = some v → v.low = 0
def Q3 (L : List Int) (r bl le ba : Int) (zs : List Int) (cs : List Cell) (ts : List Ten) (e : Ex) (s : VSt) : Prop := e = .exit 6 ∧ ∃ (vs : List Ver) (i : Nat) (zv cv tv vv : DV), CS L s i r bl le ba zv cv tv vv nilV nilV ∧ ZT r zs cs ts s.H zv cv tv ∧
  SlV s.H vs vv ∧ i ≤ 180 ∧ vs.length ≤ 3 ∧ (∀ v, v ∈ vs → VerOk v) ∧ ∀ v, vs.head? = some v → v.low = 0
theorem config_l3 (L : List Int) (hL : I64s L) (r bl le ba : Int) (zs : List Int) (cs : List Cell) (ts : List Ten) : ∀ (k : Nat) s, L3 L r bl le ba zs cs ts k s → Ok (R PP shF 0 182 (.loop ir28_l3) s) (Q3 L r bl le ba zs cs ts) := by
  refine Ok_dn (L3 L r bl le ba zs cs ts) fun k s hI => ?_
  obtain ⟨vs, i, zv, cv, tv, vv, C, hzc, ht, hi, e7, len, rg, hd⟩ := hI
  obtain ⟨E, H⟩ := s
  obtain ⟨e2, e3, e4, h2, h4, h15, hi0⟩ := C
  simp only at e2 e3 e4 h2 h4 h15 e7 hzc ht
  by_cases hk : k = 0
  · subst hk
    simp -implicitDefEqProofs only [go_sem, ir28_l3, e7]
    refine .exit ⟨rfl, vs, i, zv, cv, tv, vv, ⟨?_, ?_, ?_, ?_, ?_, ?_, by omega⟩, hzc.keep ?_ ?_ ?_, ht.keep ?_ ?_, by omega, by omega, rg, hd⟩ <;> simp -implicitDefEqProofs only [go_sem, e2, e3, e4, h2, h4, h15]
  · have d1 : decide (0 < (k : Int)) = true := by simp; omega
    have w1 : IntKind.wrap .i64 ((k : Int) - 1) = ((k - 1 : Nat) : Int) := by rw [w64 (by omega) (by omega)]; omega
    obtain ⟨v1, i1, a1, b1, c1, d1', F1⟩ := Next_ex L i 2 hL (by omega) (by omega) (by omega)
    obtain ⟨v2, i2, a2, b2, c2, d2', F2⟩ := Next_ex L i1 3 hL (by omega) (by omega) (by omega)
    have w2 : IntKind.wrap .i64 (v1 + v2) = v1 + v2 := w64 (by omega) (by omega)
    have c1' : ¬ vs.length + 1 ≤ vs.length := by omega
    have c2' : (vs.length + 1) * 16 ≤ 140737488355328 ∧ vs.length ≤ 9223372036854775806 := by omega
    have ht' : List.take vs.length (vs.map eV) = vs.map eV := List.take_of_length_le (by simp)
    obtain ⟨h0, b, ver, hb, rfl, hh⟩ := ht
    have hm : ∀ t, t ∈ vs ++ [⟨v1, v1 + v2⟩] → VerOk t := by
      intro t hx
      rcases List.mem_append.1 hx with hx | hx
      · exact rg t hx
      · simp at hx; subst hx
        constructor <;> simp only <;> omega
    have hd' : ∀ v : Ver, (vs ++ [(⟨v1, v1 + v2⟩ : Ver)]).head? = some v → v.low = 0 := by
      intro v hv
      refine hd v ?_
      cases vs with
      | nil => exact absurd rfl h0
      | cons a l => exact hv
    have hne : vs ++ [(⟨v1, v1 + v2⟩ : Ver)] ≠ [] := by simp
    rcases hb with rfl | rfl
    · simp -implicitDefEqProofs only [go_sem, ir28_l3, e2, e3, e4, e7, h2, h4, h15, d1, w1, F1, F2, w2, hh, c1', c2', ht']
      refine .next (m := k - 1) (by omega) ⟨vs ++ [⟨v1, v1 + v2⟩], i2, _, _, _, .ms 145 ((hg H 145).ver + 1) 0 (vs.length + 1) (vs.length + 1), ⟨?_, ?_, ?_, ?_, ?_, ?_, by omega⟩, hzc.keep ?_ ?_ ?_, ⟨hne, 145, (hg H 145).ver + 1, .inr rfl, ?_, ?_⟩, by omega, ?_, by simp; omega, hm, hd'⟩ <;> simp -implicitDefEqProofs only [go_sem, e2, e3, e4, e7, h2, h4, h15, w1, List.map_append, List.length_append]
    · simp -implicitDefEqProofs only [go_sem, ir28_l3, e2, e3, e4, e7, h2, h4, h15, d1, w1, F1, F2, w2, hh, c1', c2', ht']
      refine .next (m := k - 1) (by omega) ⟨vs ++ [⟨v1, v1 + v2⟩], i2, _, _, _, .ms 145 (ver + 1 + 1) 0 (vs.length + 1) (vs.length + 1), ⟨?_, ?_, ?_, ?_, ?_, ?_, by omega⟩, hzc.keep ?_ ?_ ?_, ⟨hne, 145, ver + 1 + 1, .inr rfl, ?_, ?_⟩, by omega, ?_, by simp; omega, hm, hd'⟩ <;> simp -implicitDefEqProofs only [go_sem, e2, e3, e4, e7, h2, h4, h15, w1, List.map_append, List.length_append]
/-- Zones, cells, tenants, versions (and replicas) are there. -/
structure ZV (r : Int) (zs : List Int) (cs : List Cell) (ts : List Ten) (vs : List Ver) (rs : List Int) (H : VHeap) (zv cv tv vv rv : DV) : Prop where
  z : SlB H 49 1 (zs.map eI) zv
  c : SlB H 78 2 (cs.map eC) cv
  t : SlB H 121 7 (ts.map eT) tv
  v : SlV H vs vv
  r : SlB H 163 1 (rs.map eI) rv
theorem ZV.keep {r : Int} {zs : List Int} {cs : List Cell} {ts : List Ten} {vs : List Ver} {rs : List Int} {H H' : VHeap} {zv cv tv vv rv : DV} (h : ZV r zs cs ts vs rs H zv cv tv vv rv) (h1 : hg H' 49 = hg H 49) (h2 : hg H' 78 = hg H 78) (h3 : hg H' 121 = hg H 121) (h4 : hg H' 126 = hg H 126) (h5 : hg H' 145 = hg H 145) (h6 : hg H' 163 = hg H 163) : ZV r zs cs ts vs rs H' zv cv tv vv rv := ⟨h.z.keep h1, h.c.keep h2, h.t.keep h3, h.v.keep h4 h5, h.r.keep h6⟩
structure ZR (r : Int) (zs : List Int) (cs : List Cell) (ts : List Ten) (vs : List Ver) (H : VHeap) (zv cv tv vv : DV) : Prop where
  z : SlB H 49 1 (zs.map eI) zv
  c : SlB H 78 2 (cs.map eC) cv
  t : SlB H 121 7 (ts.map eT) tv
  v : SlV H vs vv
theorem ZR.keep {r : Int} {zs : List Int} {cs : List Cell} {ts : List Ten} {vs : List Ver} {H H' : VHeap} {zv cv tv vv : DV} (h : ZR r zs cs ts vs H zv cv tv vv) (h1 : hg H' 49 = hg H 49) (h2 : hg H' 78 = hg H 78) (h3 : hg H' 121 = hg H 121) (h4 : hg H' 126 = hg H 126) (h5 : hg H' 145 = hg H 145) : ZR r zs cs ts vs H' zv cv tv vv := ⟨h.z.keep h1, h.c.keep h2, h.t.keep h3, h.v.keep h4 h5⟩
def L4 (L : List Int) (r bl le ba : Int) (zs : List Int) (cs : List Cell) (ts : List Ten) (vs : List Ver) (rs : List Int) (N : Nat) (k : Nat) (s : VSt) : Prop := ∃ (os : List Int) (i : Nat) (zv cv tv vv rv ov : DV), CS L s i r bl le ba zv cv tv vv rv nilV ∧ ZR r zs cs ts vs s.H zv cv tv vv ∧
  SlB s.H 163 1 (os.map eI) rv ∧ i + 10 * k ≤ 240 ∧ gt .bad s.E 12 = dI (k : Nat) ∧ os.length + k = N ∧ ∀ z, z ∈ os → 0 ≤ z ∧ z < zs.length
def Q4 (L : List Int) (r bl le ba : Int) (zs : List Int) (cs : List Cell) (ts : List Ten) (vs : List Ver) (rs : List Int) (N : Nat) (e : Ex) (s : VSt) : Prop := e = .exit 8 ∧ ∃ (os : List Int) (i : Nat) (zv cv tv vv rv ov : DV), CS L s i r bl le ba zv cv tv vv rv nilV ∧ ZR r zs cs ts vs s.H zv cv tv vv ∧
  SlB s.H 163 1 (os.map eI) rv ∧ i ≤ 240 ∧ os.length = N ∧ ∀ z, z ∈ os → 0 ≤ z ∧ z < zs.length
theorem config_l4 (L : List Int) (hL : I64s L) (r bl le ba : Int) (zs : List Int) (hz0 : 1 ≤ zs.length) (hz6 : zs.length ≤ 6) (cs : List Cell) (ts : List Ten) (vs : List Ver) (rs : List Int) (N : Nat) (hN : N ≤ 4) : ∀ (k : Nat) s, L4 L r bl le ba zs cs ts vs rs N k s → Ok (R PP shF 0 182 (.loop ir28_l4) s) (Q4 L r bl le ba zs cs ts vs rs N) := by
  refine Ok_dn (L4 L r bl le ba zs cs ts vs rs N) fun k s hI => ?_
  obtain ⟨os, i, zv, cv, tv, vv, rv, ov, C, hzc, ht, hi, e7, len, rg⟩ := hI
  obtain ⟨E, H⟩ := s
  obtain ⟨e2, e3, e4, h2, h4, h15, hi0⟩ := C
  simp only at e2 e3 e4 h2 h4 h15 e7 hzc ht
  by_cases hk : k = 0
  · subst hk
    simp -implicitDefEqProofs only [go_sem, ir28_l4, e7]
    refine .exit ⟨rfl, os, i, zv, cv, tv, vv, rv, ov, ⟨?_, ?_, ?_, ?_, ?_, ?_, by omega⟩, hzc.keep ?_ ?_ ?_ ?_ ?_, ht.keep ?_, by omega, by omega, rg⟩ <;> simp -implicitDefEqProofs only [go_sem, e2, e3, e4, h2, h4, h15]
  · have d1 : decide (0 < (k : Int)) = true := by simp; omega
    have w1 : IntKind.wrap .i64 ((k : Int) - 1) = ((k - 1 : Nat) : Int) := by rw [w64 (by omega) (by omega)]; omega
    obtain ⟨v1, i1, a1, b1, c1, d1', F1⟩ := Next_ex L i zs.length hL (by omega) (by omega) (by omega)
    have c1' : ¬ os.length + 1 ≤ os.length := by omega
    have c2' : (os.length + 1) * 8 ≤ 140737488355328 ∧ os.length ≤ 9223372036854775806 := by omega
    have ht' : List.take os.length (os.map eI) = os.map eI := List.take_of_length_le (by simp)
    have hz := hzc.z
    rcases hz with ⟨hz, rfl⟩ | ⟨hz, verz, rfl, hbz⟩
    · exfalso
      have : zs = [] := by simpa using hz
      subst this; simp at hz0
    have hm : ∀ t, t ∈ os ++ [v1] → 0 ≤ t ∧ t < zs.length := by
      intro t hx
      rcases List.mem_append.1 hx with hx | hx
      · exact rg t hx
      · simp at hx; subst hx; omega
    rcases ht with ⟨ht, rfl⟩ | ⟨ht, ver, rfl, hb⟩
    · simp -implicitDefEqProofs only [go_sem, ir28_l4, e2, e3, e4, e7, h2, h4, h15, d1, w1, F1, hbz]
      refine .next (m := k - 1) (by omega) ⟨os ++ [v1], i1, _, _, _, _, .ms 163 ((hg H 163).ver + 1) 0 1 1, ov, ⟨?_, ?_, ?_, ?_, ?_, ?_, by omega⟩, hzc.keep ?_ ?_ ?_ ?_ ?_, SlB.mk ?_ ?_ ?_, by omega, ?_, by simp; omega, hm⟩ <;> simp -implicitDefEqProofs only [go_sem, e2, e3, e4, e7, h2, h4, h15, w1, List.map_append, ht]
    · simp -implicitDefEqProofs only [go_sem, ir28_l4, e2, e3, e4, e7, h2, h4, h15, d1, w1, F1, hbz, hb, c1', c2', ht']
      refine .next (m := k - 1) (by omega) ⟨os ++ [v1], i1, _, _, _, _, .ms 163 (ver + 1 + 1) 0 (os.length + 1) (os.length + 1), ov, ⟨?_, ?_, ?_, ?_, ?_, ?_, by omega⟩, hzc.keep ?_ ?_ ?_ ?_ ?_, SlB.mk ?_ ?_ ?_, by omega, ?_, by simp; omega, hm⟩ <;> simp -implicitDefEqProofs only [go_sem, e2, e3, e4, e7, h2, h4, h15, w1, List.map_append, List.length_append]
def L5 (L : List Int) (r bl le ba : Int) (zs : List Int) (cs : List Cell) (ts : List Ten) (vs : List Ver) (rs : List Int) (N : Nat) (k : Nat) (s : VSt) : Prop := ∃ (os : List Int) (i : Nat) (zv cv tv vv rv ov : DV), CS L s i r bl le ba zv cv tv vv rv ov ∧ ZV r zs cs ts vs rs s.H zv cv tv vv rv ∧
  SlB s.H 179 1 (os.map eI) ov ∧ i + 10 * k ≤ 300 ∧ gt .bad s.E 13 = dI (k : Nat) ∧ os.length + k = N ∧ ∀ z, z ∈ os → 0 ≤ z ∧ z < zs.length
def Q5 (L : List Int) (r bl le ba : Int) (zs : List Int) (cs : List Cell) (ts : List Ten) (vs : List Ver) (rs : List Int) (N : Nat) (e : Ex) (s : VSt) : Prop := e = .exit 10 ∧ ∃ (os : List Int) (i : Nat) (zv cv tv vv rv ov : DV), CS L s i r bl le ba zv cv tv vv rv ov ∧ ZV r zs cs ts vs rs s.H zv cv tv vv rv ∧
  SlB s.H 179 1 (os.map eI) ov ∧ i ≤ 300 ∧ os.length = N ∧ ∀ z, z ∈ os → 0 ≤ z ∧ z < zs.length
theorem config_l5 (L : List Int) (hL : I64s L) (r bl le ba : Int) (zs : List Int) (hz0 : 1 ≤ zs.length) (hz6 : zs.length ≤ 6) (cs : List Cell) (ts : List Ten) (vs : List Ver) (rs : List Int) (N : Nat) (hN : N ≤ 4) : ∀ (k : Nat) s, L5 L r bl le ba zs cs ts vs rs N k s → Ok (R PP shF 0 182 (.loop ir28_l5) s) (Q5 L r bl le ba zs cs ts vs rs N) := by
  refine Ok_dn (L5 L r bl le ba zs cs ts vs rs N) fun k s hI => ?_
  obtain ⟨os, i, zv, cv, tv, vv, rv, ov, C, hzc, ht, hi, e7, len, rg⟩ := hI
  obtain ⟨E, H⟩ := s
  obtain ⟨e2, e3, e4, h2, h4, h15, hi0⟩ := C
  simp only at e2 e3 e4 h2 h4 h15 e7 hzc ht
  by_cases hk : k = 0
  · subst hk
    simp -implicitDefEqProofs only [go_sem, ir28_l5, e7]
    refine .exit ⟨rfl, os, i, zv, cv, tv, vv, rv, ov, ⟨?_, ?_, ?_, ?_, ?_, ?_, by omega⟩, hzc.keep ?_ ?_ ?_ ?_ ?_ ?_, ht.keep ?_, by omega, by omega, rg⟩ <;> simp -implicitDefEqProofs only [go_sem, e2, e3, e4, h2, h4, h15]
  · have d1 : decide (0 < (k : Int)) = true := by simp; omega
    have w1 : IntKind.wrap .i64 ((k : Int) - 1) = ((k - 1 : Nat) : Int) := by rw [w64 (by omega) (by omega)]; omega
    obtain ⟨v1, i1, a1, b1, c1, d1', F1⟩ := Next_ex L i zs.length hL (by omega) (by omega) (by omega)
    have c1' : ¬ os.length + 1 ≤ os.length := by omega
    have c2' : (os.length + 1) * 8 ≤ 140737488355328 ∧ os.length ≤ 9223372036854775806 := by omega
    have ht' : List.take os.length (os.map eI) = os.map eI := List.take_of_length_le (by simp)
    have hz := hzc.z
    rcases hz with ⟨hz, rfl⟩ | ⟨hz, verz, rfl, hbz⟩
    · exfalso
      have : zs = [] := by simpa using hz
      subst this; simp at hz0
    have hm : ∀ t, t ∈ os ++ [v1] → 0 ≤ t ∧ t < zs.length := by
      intro t hx
      rcases List.mem_append.1 hx with hx | hx
      · exact rg t hx
      · simp at hx; subst hx; omega
    rcases ht with ⟨ht, rfl⟩ | ⟨ht, ver, rfl, hb⟩
    · simp -implicitDefEqProofs only [go_sem, ir28_l5, e2, e3, e4, e7, h2, h4, h15, d1, w1, F1, hbz]
      refine .next (m := k - 1) (by omega) ⟨os ++ [v1], i1, _, _, _, _, rv, .ms 179 ((hg H 179).ver + 1) 0 1 1, ⟨?_, ?_, ?_, ?_, ?_, ?_, by omega⟩, hzc.keep ?_ ?_ ?_ ?_ ?_ ?_, SlB.mk ?_ ?_ ?_, by omega, ?_, by simp; omega, hm⟩ <;> simp -implicitDefEqProofs only [go_sem, e2, e3, e4, e7, h2, h4, h15, w1, List.map_append, ht]
    · simp -implicitDefEqProofs only [go_sem, ir28_l5, e2, e3, e4, e7, h2, h4, h15, d1, w1, F1, hbz, hb, c1', c2', ht']
      refine .next (m := k - 1) (by omega) ⟨os ++ [v1], i1, _, _, _, _, rv, .ms 179 (ver + 1 + 1) 0 (os.length + 1) (os.length + 1), ⟨?_, ?_, ?_, ?_, ?_, ?_, by omega⟩, hzc.keep ?_ ?_ ?_ ?_ ?_ ?_, SlB.mk ?_ ?_ ?_, by omega, ?_, by simp; omega, hm⟩ <;> simp -implicitDefEqProofs only [go_sem, e2, e3, e4, e7, h2, h4, h15, w1, List.map_append, List.length_append]
/-- What every configuration out of a tape is. -/
structure ConfOk (k : Conf) : Prop where
  r0 : 1 ≤ k.regions
  r1 : k.regions ≤ 3
  z0 : k.regions ≤ (k.zones.length : Int)
  z1 : k.zones.length ≤ 6
  zs : ∀ z, z ∈ k.zones → 0 ≤ z ∧ z < k.regions
  c0 : k.zones.length ≤ k.cells.length
  c1 : k.cells.length ≤ 7
  cs : ∀ x, x ∈ k.cells → 0 ≤ x.zone ∧ x.zone < (k.zones.length : Int) ∧ 10 ≤ x.cap ∧ x.cap ≤ 40
  t1 : k.tens.length ≤ 5
  ts : ∀ x, x ∈ k.tens → TenOk k.regions x
  v0 : k.vers ≠ []
  v1 : k.vers.length ≤ 3
  vs : ∀ x, x ∈ k.vers → VerOk x
  vh : ∀ v, k.vers.head? = some v → v.low = 0
  ps : k.reps.length = 1 ∨ k.reps.length = 3
  pz : ∀ z, z ∈ k.reps → 0 ≤ z ∧ z < (k.zones.length : Int)
  o0 : 1 ≤ k.obs.length
  o1 : k.obs.length ≤ 4
  oz : ∀ z, z ∈ k.obs → 0 ≤ z ∧ z < (k.zones.length : Int)
  b0 : 1 ≤ k.blast
  b1 : k.blast ≤ 3
  l0 : 2 ≤ k.lease
  l1 : k.lease ≤ 12
  k0 : 0 ≤ k.bake
  k1 : k.bake ≤ 8
theorem closed_eI (l : List Int) : (l.map eI).all closedL = true := by simp [List.all_eq_true, closedL, closedD]
theorem closed_eC (l : List Cell) : (l.map eC).all closedL = true := by simp [List.all_eq_true, closedL, closedD]
theorem closed_eT (l : List Ten) : (l.map eT).all closedL = true := by simp [List.all_eq_true, closedL, closedD]
theorem closed_eV (l : List Ver) : (l.map eV).all closedL = true := by simp [List.all_eq_true, closedL, closedD]
theorem lits_eI (l : List Int) : (l.map eI).all (fun el => el.all lit1) = true := by simp [List.all_eq_true, lit1]
theorem SlV.frz {H : VHeap} {vs : List Ver} {v : DV} (h : SlV H vs v) (n : Nat) : frzD H (n + 1) v = some (.sl (vs.map eV)) := by
  obtain ⟨_, b, ver, _, rfl, hb⟩ := h
  rw [frz_ms, hb]
  have ht : List.take vs.length (vs.map eV) = vs.map eV := List.take_of_length_le (by simp)
  simp only [VB.part, Nat.zero_add, Nat.le_refl, and_self, ne_eq, ↓reduceIte, List.drop_zero, List.length_map, ht, Option.bind_some, closed_eV, Nat.reduceEqDiff, not_false_eq_true, reduceCtorEq, and_true, true_and]
theorem SlV.one {H : VHeap} {vs : List Ver} {v : DV} (h : SlV H vs v) : oneD v = true := by
  obtain ⟨_, b, ver, _, rfl, _⟩ := h; rfl
theorem FV_Config (l : List Int) (hl : I64s l) : ∃ c, ConfOk c ∧ FV PP shF 28 [dL l] = some (.agg (eK c)) := by
  obtain ⟨v1, i1, a1, b1, c1, d1, F1⟩ := Next_ex l 0 5 hl (by omega) (by omega) (by omega)
  obtain ⟨v2, i2, a2, b2, c2, d2, F2⟩ := Range_ex l i1 1 3 hl (by omega) (by omega) (by omega) (by omega)
  obtain ⟨v3, i3, a3, b3, c3, d3, F3⟩ := Range_ex l i2 2 12 hl (by omega) (by omega) (by omega) (by omega)
  obtain ⟨v4, i4, a4, b4, c4, d4, F4⟩ := Next_ex l i3 9 hl (by omega) (by omega) (by omega)
  have w1 : IntKind.wrap .i64 (v1 + 1) = v1 + 1 := w64 (by omega) (by omega)
  have B1 := FV_Between (v1 + 1) 1 3 ⟨by omega, by omega⟩ (by omega) (by omega) (by omega)
  have hr : 1 ≤ 1 + (v1 + 1) % (3 - 1 + 1) ∧ 1 + (v1 + 1) % (3 - 1 + 1) ≤ 3 := by omega
  generalize 1 + (v1 + 1) % (3 - 1 + 1) = r at B1 hr
  suffices hs : OkF (F PP shF 28 [dL l] [] 0) (fun d H => ∃ c, ConfOk c ∧ frzD H 6 d = some (.agg (eK c))) by
    obtain ⟨d, H, h1, c, h2, h3⟩ := hs
    exact ⟨c, h2, FV_of h1 h3⟩
  refine F_ok PP28 rfl ⟨by simp [ir28], by simp⟩ ?_
  simp -implicitDefEqProofs only [go_sem, ir28, vp_New, F1, F2, F3, F4, w1, vpS B1 rfl]
  refine (config_l0 l hl r v2 v3 v4 hr 0 _ ?_).mono ?_
  · refine ⟨[], i4, _, ⟨?_, ?_, ?_, ?_, ?_, ?_, by omega⟩, SlB.nil, by omega, ?_, rfl, by omega, by simp⟩ <;> simp -implicitDefEqProofs only [go_sem, ]
  rintro e ⟨E, H⟩ ⟨rfl, zs, i, zv, ⟨e2, e3, e4, h2, h4, h15, hi0⟩, hz, hi, hzr, hz6, rgz⟩
  simp only at e2 e3 e4 h2 h4 h15 hz
  simp -implicitDefEqProofs only [go_sem, ]
  refine (config_l1 l hl r v2 v3 v4 zs (by omega) hz6 0 _ ?_).mono ?_
  · refine ⟨[], i, zv, _, ⟨?_, ?_, ?_, ?_, ?_, ?_, by omega⟩, hz.keep ?_, SlB.nil, by omega, ?_, rfl, by omega, by simp⟩ <;> simp -implicitDefEqProofs only [go_sem, e2, e3, e4, h2, h4, h15]
  clear e2 e3 e4 h2 h4 h15 hz hi hi0 F1 F2 F3 F4 c1 c2 c3 c4 d1 d2 d3 d4 B1
  rintro e ⟨E, H⟩ ⟨rfl, cs, i, zv, cv, ⟨e2, e3, e4, h2, h4, h15, hi0⟩, hz, hc, hi, hc0, hc7, rgc⟩
  simp only at e2 e3 e4 h2 h4 h15 hz hc
  obtain ⟨u1, j1, p1, q1, c1, d1, F1⟩ := Next_ex l i 6 hl (by omega) (by omega) (by omega)
  simp -implicitDefEqProofs only [go_sem, e3, h15, F1]
  have hu1 : u1 = ((u1.toNat : Nat) : Int) := by omega
  refine (config_l2 l hl r v2 v3 v4 hr zs cs u1.toNat _ ?_).mono ?_
  · refine ⟨[], j1, zv, cv, _, ⟨?_, ?_, ?_, ?_, ?_, ?_, by omega⟩, ⟨hz.keep ?_, hc.keep ?_⟩, SlB.nil, by omega, ?_, by simp; omega, by simp⟩ <;> simp -implicitDefEqProofs only [go_sem, e2, e3, e4, h2, h4, h15]
    rw [← hu1]
  clear e2 e3 e4 h2 h4 h15 hz hc hi hi0 F1 c1 d1 hu1
  rintro e ⟨E, H⟩ ⟨rfl, ts, i, zv, cv, tv, ⟨e2, e3, e4, h2, h4, h15, hi0⟩, hzc, ht, hi, ht5, rgt⟩
  simp only at e2 e3 e4 h2 h4 h15 hzc ht
  obtain ⟨x1, j1, p1, q1, c1, d1, F1⟩ := Next_ex l i 3 hl (by omega) (by omega) (by omega)
  obtain ⟨x2, j2, p2, q2, c2, d2, F2⟩ := Next_ex l j1 3 hl (by omega) (by omega) (by omega)
  simp -implicitDefEqProofs only [go_sem, e3, e4, h4, h15, F1, F2]
  have hu1 : x2 = ((x2.toNat : Nat) : Int) := by omega
  refine (config_l3 l hl r v2 v3 v4 zs cs ts x2.toNat _ ?_).mono ?_
  · refine ⟨[⟨0, x1⟩], j2, zv, cv, tv, .ms 126 ((hg H 126).ver + 1) 0 1 1, ⟨?_, ?_, ?_, ?_, ?_, ?_, by omega⟩, ⟨hzc.z.keep ?_, hzc.c.keep ?_, ht.keep ?_⟩, ⟨by simp, 126, (hg H 126).ver + 1, .inl rfl, ?_, ?_⟩, by omega, ?_, by simp; omega, ?_, by simp⟩ <;> (try simp -implicitDefEqProofs only [go_sem, e2, e3, e4, h2, h4, h15])
    · rw [← hu1]
    · intro v hv
      simp at hv; subst hv
      constructor <;> simp only <;> omega
  clear e2 e3 e4 h2 h4 h15 hzc ht hi hi0 F1 F2 c1 d1 c2 d2 hu1
  rintro e ⟨E, H⟩ ⟨rfl, vs, i, zv, cv, tv, vv, ⟨e2, e3, e4, h2, h4, h15, hi0⟩, hzc, hv, hi, hv3, rgv, hvh⟩
  simp only at e2 e3 e4 h2 h4 h15 hzc hv
  obtain ⟨y1, j1, p1, q1, c1, d1, F1⟩ := Next_ex l i 2 hl (by omega) (by omega) (by omega)
  have w2 : IntKind.wrap .i64 (2 * y1) = 2 * y1 := w64 (by omega) (by omega)
  have w3 : IntKind.wrap .i64 (2 * y1 + 1) = 2 * y1 + 1 := w64 (by omega) (by omega)
  simp -implicitDefEqProofs only [go_sem, e3, e4, h4, h15, F1, w2, w3]
  have hu1 : 2 * y1 + 1 = (((2 * y1 + 1).toNat : Nat) : Int) := by omega
  refine (config_l4 l hl r v2 v3 v4 zs (by omega) hz6 cs ts vs [] (2 * y1 + 1).toNat (by omega) (2 * y1 + 1).toNat _ ?_).mono ?_
  · refine ⟨[], j1, zv, cv, tv, vv, _, .bad, ⟨?_, ?_, ?_, ?_, ?_, ?_, by omega⟩, ⟨hzc.z.keep ?_, hzc.c.keep ?_, hzc.t.keep ?_, hv.keep ?_ ?_⟩, SlB.nil, by omega, ?_, by simp, by simp⟩ <;> simp -implicitDefEqProofs only [go_sem, e2, e3, e4, h2, h4, h15]
    rw [← hu1]
  clear e2 e3 e4 h2 h4 h15 hzc hv hi hi0 F1 c1 d1 hu1
  rintro e ⟨E, H⟩ ⟨rfl, rs, i, zv, cv, tv, vv, rv, ov, ⟨e2, e3, e4, h2, h4, h15, hi0⟩, hzc, hrs, hi, hrl, rgr⟩
  simp only at e2 e3 e4 h2 h4 h15 hzc hrs
  obtain ⟨o1, j1, p3, q3, c1, d1, F1⟩ := Range_ex l i 1 4 hl (by omega) (by omega) (by omega) (by omega)
  simp -implicitDefEqProofs only [go_sem, e3, e4, h4, h15, F1]
  have hu1 : o1 = ((o1.toNat : Nat) : Int) := by omega
  refine (config_l5 l hl r v2 v3 v4 zs (by omega) hz6 cs ts vs rs o1.toNat (by omega) o1.toNat _ ?_).mono ?_
  · refine ⟨[], j1, zv, cv, tv, vv, rv, _, ⟨?_, ?_, ?_, ?_, ?_, ?_, by omega⟩, ⟨hzc.z.keep ?_, hzc.c.keep ?_, hzc.t.keep ?_, hzc.v.keep ?_ ?_, hrs.keep ?_⟩, SlB.nil, by omega, ?_, by simp, by simp⟩ <;> simp -implicitDefEqProofs only [go_sem, e2, e3, e4, h2, h4, h15]
    rw [← hu1]
  clear e2 e3 e4 h2 h4 h15 hzc hrs hi hi0 F1 c1 d1 hu1
  rintro e ⟨E, H⟩ ⟨rfl, os, i, zv, cv, tv, vv, rv, ov, ⟨e2, e3, e4, h2, h4, h15, hi0⟩, hzc, hos, hi, hol, rgo⟩
  simp only at e2 e3 e4 h2 h4 h15 hzc hos
  simp -implicitDefEqProofs only [go_sem, e2, e4, h2, h4, h15, hzc.z.one, hzc.c.one, hzc.t.one, hzc.v.one, hzc.r.one, hos.one]
  refine ⟨⟨r, zs, cs, ts, vs, rs, os, v2, v3, v4⟩, ?_, ?_⟩
  · exact ⟨hr.1, hr.2, hzr, hz6, rgz, hc0, hc7, rgc, ht5, rgt, hzc.v.1, hv3, rgv, hvh, by simp only; omega, rgr, by simp only; omega, by simp only; omega, rgo, a2, b2, a3, b3, a4, by simp only; omega⟩
  · have K1 : ∀ x, frzD (hs H 2 x) 5 zv = some (.sl (zs.map eI)) := fun x => (hzc.z.keep (by simp -implicitDefEqProofs only [go_sem, ])).frz (by decide) (closed_eI _) 4
    have K2 : ∀ x, frzD (hs H 2 x) 5 cv = some (.sl (cs.map eC)) := fun x => (hzc.c.keep (by simp -implicitDefEqProofs only [go_sem, ])).frz (by decide) (closed_eC _) 4
    have K3 : ∀ x, frzD (hs H 2 x) 5 tv = some (.sl (ts.map eT)) := fun x => (hzc.t.keep (by simp -implicitDefEqProofs only [go_sem, ])).frz (by decide) (closed_eT _) 4
    have K4 : ∀ x, frzD (hs H 2 x) 5 vv = some (.sl (vs.map eV)) := fun x => (hzc.v.keep (by simp -implicitDefEqProofs only [go_sem, ]) (by simp -implicitDefEqProofs only [go_sem, ])).frz 4
    have K5 : ∀ x, frzD (hs H 2 x) 5 rv = some (.sl (rs.map eI)) := fun x => (hzc.r.keep (by simp -implicitDefEqProofs only [go_sem, ])).frz (by decide) (closed_eI _) 4
    have K6 : ∀ x, frzD (hs H 2 x) 5 ov = some (.sl (os.map eI)) := fun x => (hos.keep (by simp -implicitDefEqProofs only [go_sem, ])).frz (by decide) (closed_eI _) 4
    simp -implicitDefEqProofs only [go_sem, K1, K2, K3, K4, K5, K6]
/-- Element i of a set. -/
def bit (s i : Int) : Bool := decide ((s / 2 ^ i.toNat) % 2 = 1)
theorem and1 (a : Int) : andI .i64 a 1 = a % 2 := by
  have h : ((BitVec.ofInt 64 a &&& BitVec.ofInt 64 1).toNat : Int) = a % 2 := by
    have h1 : (BitVec.ofInt 64 1 : BitVec 64) = 1#64 := by decide
    rw [h1, BitVec.toNat_and]
    have h2 : (1#64).toNat = 1 := by decide
    rw [h2, Nat.and_one_is_mod, BitVec.toNat_ofInt]
    have h3 : 0 ≤ a % (2 ^ 64 : Nat) := Int.emod_nonneg _ (by decide)
    omega
  show IntKind.wrap .i64 (((BitVec.ofInt 64 a &&& BitVec.ofInt 64 1).toNat : Nat) : Int) = a % 2
  rw [h, w64 (by omega) (by omega)]
theorem shr_div (s i : Int) (h0 : 0 ≤ i) (h1 : i ≤ 64) : s.fdiv (2 ^ (min i.toNat 64)) = s / 2 ^ i.toNat := by
  rw [show min i.toNat 64 = i.toNat by omega]
  rw [Int.fdiv_eq_ediv_of_nonneg _ (by exact Int.pow_nonneg (by decide))]
def regZ (c : Conf) (z : Int) : Int := if 0 ≤ z ∧ z < c.zones.length then c.zones.getD z.toNat 0 else -1
def zoneOf (c : Conf) (i : Int) : Int := if 0 ≤ i ∧ i < c.cells.length then (c.cells.getD i.toNat ⟨0, 0⟩).zone else -1
def regOf (c : Conf) (i : Int) : Int := regZ c (zoneOf c i)
/-- Lists are not too long for the machine. -/
structure Lens (k : Conf) : Prop where
  z : k.zones.length ≤ 1000
  c : k.cells.length ≤ 1000
  t : k.tens.length ≤ 1000
  v : k.vers.length ≤ 1000
  p : k.reps.length ≤ 1000
  o : k.obs.length ≤ 1000
theorem getD_at {α : Type} {l : List α} {i : Nat} {d : α} (h : i < l.length) : l[i]? = some (l.getD i d) := by
  rw [List.getElem?_eq_getElem h, List.getD_eq_getElem?_getD, List.getElem?_eq_getElem h]; rfl

theorem FV_tbetween (n lo hi : Int) : FV PP shF 66 [dI n, dI lo, dI hi] = some (dB (decide (lo ≤ n) && decide (n ≤ hi))) := by
  refine FV_B (H := []) ?_
  rw [F_fun PP66 rfl ⟨by simp [ir66], by simp⟩]
  by_cases h : lo ≤ n
  · simp -implicitDefEqProofs only [go_sem, ir66, h]
  · simp -implicitDefEqProofs only [go_sem, ir66, h]
theorem FV_region (c : Conf) (hc : Lens c) (z : Int) : FV PP shF 73 [.agg (eK c), dI z] = some (dI (regZ c z)) := by
  refine FV_ok (F_ok PP73 rfl ⟨by simp [ir73], by simp⟩ ?_)
  have hl := hc.z
  have w : IntKind.wrap .i64 ((c.zones.length : Int) - 1) = (c.zones.length : Int) - 1 := w64 (by omega) (by omega)
  have B := FV_tbetween z 0 ((c.zones.length : Int) - 1)
  unfold regZ
  by_cases h : 0 ≤ z ∧ z < c.zones.length
  · have e1 : (decide (0 ≤ z) && decide (z ≤ (c.zones.length : Int) - 1)) = true := by simp; omega
    rw [e1] at B
    have hg := getD_at (l := c.zones) (i := z.toNat) (d := 0) (by omega)
    simp -implicitDefEqProofs only [go_sem, ir73, eK, w, vpS B rfl, h, hg]
  · have e1 : (decide (0 ≤ z) && decide (z ≤ (c.zones.length : Int) - 1)) = false := by simp; omega
    rw [e1] at B
    simp -implicitDefEqProofs only [go_sem, ir73, eK, w, vpS B rfl, h]
theorem FV_ZoneOf (c : Conf) (hc : Lens c) (z : Int) : FV PP shF 39 [.agg (eK c), dI z] = some (dI (zoneOf c z)) := by
  refine FV_ok (F_ok PP39 rfl ⟨by simp [ir39], by simp⟩ ?_)
  have hl := hc.c
  have w : IntKind.wrap .i64 ((c.cells.length : Int) - 1) = (c.cells.length : Int) - 1 := w64 (by omega) (by omega)
  have B := FV_tbetween z 0 ((c.cells.length : Int) - 1)
  unfold zoneOf
  by_cases h : 0 ≤ z ∧ z < c.cells.length
  · have e1 : (decide (0 ≤ z) && decide (z ≤ (c.cells.length : Int) - 1)) = true := by simp; omega
    rw [e1] at B
    have hg := getD_at (l := c.cells) (i := z.toNat) (d := ⟨0, 0⟩) (by omega)
    simp -implicitDefEqProofs only [go_sem, ir39, eK, w, vpS B rfl, h, hg]
  · have e1 : (decide (0 ≤ z) && decide (z ≤ (c.cells.length : Int) - 1)) = false := by simp; omega
    rw [e1] at B
    simp -implicitDefEqProofs only [go_sem, ir39, eK, w, vpS B rfl, h]
theorem FV_RegionOf (c : Conf) (hc : Lens c) (z : Int) : FV PP shF 37 [.agg (eK c), dI z] = some (dI (regOf c z)) := by
  refine FV_ok (F_ok PP37 rfl ⟨by simp [ir37], by simp⟩ ?_)
  simp -implicitDefEqProofs only [go_sem, ir37, eK, vpS (FV_ZoneOf c hc z) rfl, vpS (FV_region c hc (zoneOf c z)) rfl]
  rfl
/-- The numbers below n for which p holds. -/
def sel (n : Nat) (p : Int → Bool) : List Int := ((List.range n).filter fun i : Nat => p (i : Int)).map fun i : Nat => (i : Int)
theorem sel_succ (n : Nat) (p : Int → Bool) : sel (n + 1) p = sel n p ++ (if p n = true then [(n : Int)] else []) := by
  unfold sel
  rw [List.range_succ, List.filter_append, List.map_append]
  congr 1
  by_cases h : p n = true <;> simp [h]
theorem sel_len (n : Nat) (p : Int → Bool) : (sel n p).length ≤ n := by
  unfold sel
  rw [List.length_map]
  exact Nat.le_trans (List.length_filter_le _ _) (by simp)
theorem mem_sel {n : Nat} {p : Int → Bool} {x : Int} : x ∈ sel n p ↔ 0 ≤ x ∧ x < n ∧ p x = true := by
  unfold sel
  simp only [List.mem_map, List.mem_filter, List.mem_range]
  constructor
  · rintro ⟨i, ⟨h1, h2⟩, rfl⟩; exact ⟨by omega, by omega, h2⟩
  · rintro ⟨h1, h2, h3⟩
    refine ⟨x.toNat, ⟨by omega, ?_⟩, by omega⟩
    rw [show ((x.toNat : Nat) : Int) = x by omega]; exact h3
theorem ConfOk.lens {c : Conf} (h : ConfOk c) : Lens c := by
  have h1 := h.z1
  have h2 := h.c1
  have h3 := h.t1
  have h4 := h.v1
  have h5 := h.ps
  have h6 := h.o1
  constructor <;> omega
def capOf (c : Conf) (i : Int) : Int := (c.cells.getD i.toNat ⟨0, 0⟩).cap
/-- Whether a set has an element. -/
def has (s i : Int) : Bool := decide (0 ≤ i) && decide (i < 62) && bit s i
theorem tmod2 (a : Int) : (a.tmod 2 != 0) = decide (a % 2 = 1) := by
  rw [Bool.eq_iff_iff]
  simp only [bne_iff_ne, ne_eq, decide_eq_true_eq]
  rw [Int.tmod_eq_emod]
  split
  · omega
  · rename_i h
    have : (2 : Int).natAbs = 2 := rfl
    rw [this]
    omega
theorem wu64 {n : Int} (h1 : 0 ≤ n) (h2 : n ≤ 9223372036854775807) : IntKind.wrap .u64 n = n := by
  simp [IntKind.wrap, IntKind.min, IntKind.max, IntKind.signed, IntKind.bits]; omega
theorem FV_Has (s i : Int) : FV PP shF 56 [dI s, dI i] = some (dB (has s i)) := by
  refine FV_B (H := []) ?_
  rw [F_fun PP56 rfl ⟨by simp [ir56], by simp⟩]
  by_cases h : 0 ≤ i
  · by_cases h4 : i < 62
    · have h5 : ¬ i < 0 := by omega
      have h6 := shr_div s i h (by omega)
      simp -implicitDefEqProofs only [go_sem, ir56, h, h4, h5, h6, wu64 h (by omega), tmod2, has, bit]
    · simp -implicitDefEqProofs only [go_sem, ir56, h, h4, has]
  · simp -implicitDefEqProofs only [go_sem, ir56, h, has]
theorem FV_rZoneOf (c : Conf) (hc : Lens c) (z : Int) : FV PP shF 40 [.agg (eK c), dI z] = some (dI (zoneOf c z)) := by
  refine FV_ok (F_ok PP40 rfl ⟨by simp [ir40], by simp⟩ ?_)
  unfold zoneOf
  by_cases h0 : z < 0
  · have h : ¬ (0 ≤ z ∧ z < c.cells.length) := by omega
    simp -implicitDefEqProofs only [go_sem, ir40, eK, h, h0]
  · by_cases h1 : (c.cells.length : Int) ≤ z
    · have h : ¬ (0 ≤ z ∧ z < c.cells.length) := by omega
      simp -implicitDefEqProofs only [go_sem, ir40, eK, h, h0, h1]
    · have h : 0 ≤ z ∧ z < c.cells.length := by omega
      have hg := getD_at (l := c.cells) (i := z.toNat) (d := ⟨0, 0⟩) (by omega)
      simp -implicitDefEqProofs only [go_sem, ir40, eK, h, h0, h1, hg]
/-- Zones of cells exist. -/
theorem ConfOk.zoneOf {c : Conf} (h : ConfOk c) {i : Int} (h0 : 0 ≤ i) (h1 : i < c.cells.length) : 0 ≤ Cp.zoneOf c i ∧ Cp.zoneOf c i < c.zones.length := by
  unfold Cp.zoneOf
  rw [if_pos ⟨h0, h1⟩]
  have hg := getD_at (l := c.cells) (i := i.toNat) (d := ⟨0, 0⟩) (by omega)
  have := h.cs _ (List.mem_of_getElem? hg)
  omega
theorem ConfOk.regZ {c : Conf} (h : ConfOk c) {z : Int} (h0 : 0 ≤ z) (h1 : z < c.zones.length) : 0 ≤ Cp.regZ c z ∧ Cp.regZ c z < c.regions := by
  unfold Cp.regZ
  rw [if_pos ⟨h0, h1⟩]
  have hg := getD_at (l := c.zones) (i := z.toNat) (d := 0) (by omega)
  exact h.zs _ (List.mem_of_getElem? hg)
theorem ConfOk.regOf {c : Conf} (h : ConfOk c) {i : Int} (h0 : 0 ≤ i) (h1 : i < c.cells.length) : 0 ≤ Cp.regOf c i ∧ Cp.regOf c i < c.regions := by
  have := h.zoneOf h0 h1
  exact h.regZ this.1 this.2
theorem zoneOf_out {c : Conf} {i : Int} (h : ¬ (0 ≤ i ∧ i < c.cells.length)) : zoneOf c i = -1 := by unfold zoneOf; rw [if_neg h]
theorem regOf_out {c : Conf} {i : Int} (h : ¬ (0 ≤ i ∧ i < c.cells.length)) : regOf c i = -1 := by unfold regOf; rw [zoneOf_out h]; unfold regZ; rw [if_neg (by omega)]
theorem FV_rRegionOf (c : Conf) (hc : ConfOk c) (i : Int) : FV PP shF 41 [.agg (eK c), dI i] = some (dI (regOf c i)) := by
  refine FV_ok (F_ok PP41 rfl ⟨by simp [ir41], by simp⟩ ?_)
  by_cases h : 0 ≤ i ∧ i < c.cells.length
  · have hz := hc.zoneOf h.1 h.2
    have hz0 : ¬ zoneOf c i < 0 := by omega
    have hg := getD_at (l := c.zones) (i := (zoneOf c i).toNat) (d := 0) (by omega)
    have hr : regOf c i = c.zones.getD (zoneOf c i).toNat 0 := by unfold regOf regZ; rw [if_pos hz]
    simp -implicitDefEqProofs only [go_sem, ir41, eK, vpS (FV_rZoneOf c hc.lens i) rfl, hz0, hz, hg, hr]
  · have hz := zoneOf_out h
    have hr := regOf_out h
    have B := FV_rZoneOf c hc.lens i
    rw [hz] at B
    simp -implicitDefEqProofs only [go_sem, ir41, eK, vpS B rfl, hr]
/-- Whether a cell lies in an allowed region of a tenant. -/
def mayB (c : Conf) (t i : Int) : Bool := decide (0 ≤ t) && decide (t < c.tens.length) && has (c.tens.getD t.toNat ⟨0, 0, 0, 0, 0, 0, false⟩).allowed (regOf c i)
theorem FV_rMay (c : Conf) (hc : ConfOk c) (t i : Int) : FV PP shF 57 [.agg (eK c), dI t, dI i] = some (dB (mayB c t i)) := by
  refine FV_ok (F_ok PP57 rfl ⟨by simp [ir57], by simp⟩ ?_)
  unfold mayB
  by_cases h0 : 0 ≤ t
  · by_cases h1 : t < c.tens.length
    · have hg := getD_at (l := c.tens) (i := t.toNat) (d := ⟨0, 0, 0, 0, 0, 0, false⟩) (by omega)
      simp -implicitDefEqProofs only [go_sem, ir57, eK, h0, h1, hg, vpS (FV_rRegionOf c hc i) rfl, vpS (FV_Has (c.tens.getD t.toNat ⟨0, 0, 0, 0, 0, 0, false⟩).allowed (regOf c i)) rfl]
    · simp -implicitDefEqProofs only [go_sem, ir57, eK, h0, h1]
  · simp -implicitDefEqProofs only [go_sem, ir57, eK, h0]
def apartB (c : Conf) (a b : Int) : Bool := decide (0 ≤ regOf c a) && decide (0 ≤ regOf c b) && (regOf c a != regOf c b)
theorem FV_rApart (c : Conf) (hc : ConfOk c) (a b : Int) : FV PP shF 76 [.agg (eK c), dI a, dI b] = some (dB (apartB c a b)) := by
  refine FV_ok (F_ok PP76 rfl ⟨by simp [ir76], by simp⟩ ?_)
  unfold apartB
  by_cases h0 : 0 ≤ regOf c a
  · by_cases h1 : 0 ≤ regOf c b
    · simp -implicitDefEqProofs only [go_sem, ir76, eK, vpS (FV_rRegionOf c hc a) rfl, vpS (FV_rRegionOf c hc b) rfl, h0, h1]
    · simp -implicitDefEqProofs only [go_sem, ir76, eK, vpS (FV_rRegionOf c hc a) rfl, vpS (FV_rRegionOf c hc b) rfl, h0, h1]
  · simp -implicitDefEqProofs only [go_sem, ir76, eK, vpS (FV_rRegionOf c hc a) rfl, vpS (FV_rRegionOf c hc b) rfl, h0]
def P52 (c : Conf) (t : Int) (i : Int) : Bool := mayB c t i
def L52 (c : Conf) (t : Int) (k : Nat) (w : VSt) : Prop := ∃ ov : DV, gt .bad w.E 2 = .mp 2 1 0 0 ∧ hg w.H 2 = ⟨1, 0, true, [eK c]⟩ ∧ gt .bad w.E 1 = dI t ∧ gt .bad w.E 6 = dI (k : Nat) ∧ gt .bad w.E 5 = ov ∧ SlB w.H 21 1 ((sel k (P52 c t)).map eI) ov ∧ k ≤ c.cells.length
def Q52 (c : Conf) (t : Int) (e : Ex) (w : VSt) : Prop := e = .exit 0 ∧ ∃ ov : DV, gt .bad w.E 5 = ov ∧ SlB w.H 21 1 ((sel c.cells.length (P52 c t)).map eI) ov
theorem loop52 (c : Conf) (t : Int) (hc : ConfOk c) : ∀ k w, L52 c t k w → Ok (R PP shF 0 23 (.loop ir52_l0) w) (Q52 c t) := by
  refine Ok_up c.cells.length (L52 c t) fun k w hI => ?_
  obtain ⟨E, H⟩ := w
  obtain ⟨ov, e2, h2, x1, e6, e5, ho, hk⟩ := hI
  simp only at e2 h2  x1 e6 e5 ho
  have hn := hc.lens.c
  have w1 : IntKind.wrap .i64 ((k : Int) + 1) = ((k + 1 : Nat) : Int) := by rw [w64 (by omega) (by omega)]; rfl
  by_cases hlt : k < c.cells.length
  · have d1 : decide ((k : Int) < (c.cells.length : Int)) = true := by simp; omega
    have q1 : (k : Int) < (c.cells.length : Int) := by omega
    have q0 : (0 : Int) ≤ (k : Int) := by omega
    have B1 := FV_rMay c hc t k
    have hsl := sel_len k (P52 c t)
    have c1 : ¬ (sel k (P52 c t)).length + 1 ≤ (sel k (P52 c t)).length := by omega
    have c2 : ((sel k (P52 c t)).length + 1) * 8 ≤ 140737488355328 ∧ (sel k (P52 c t)).length ≤ 9223372036854775806 := by omega
    have ht : List.take (sel k (P52 c t)).length ((sel k (P52 c t)).map eI) = (sel k (P52 c t)).map eI := List.take_of_length_le (by simp)
    cases hp : P52 c t k with
    | true =>
      have hs : sel (k + 1) (P52 c t) = sel k (P52 c t) ++ [(k : Int)] := by rw [sel_succ, if_pos hp]
      have hq : mayB c t k = true := hp
      rw [hq] at B1
      rcases ho with ⟨hz, rfl⟩ | ⟨hz, ver, rfl, hb⟩
      · simp -implicitDefEqProofs only [go_sem, ir52_l0, eK, e2, h2, x1, e6, e5, d1, w1, q0, q1, vpS B1 rfl]
        refine .next hlt ⟨.ms 21 ((hg H 21).ver + 1) 0 1 1, ?_, ?_, ?_, ?_, ?_, SlB.mk ?_ ?_ ?_, by omega⟩ <;> simp -implicitDefEqProofs only [go_sem, eK, e2, h2, x1, e6, w1, hs, List.map_append, hz]
      · simp -implicitDefEqProofs only [go_sem, ir52_l0, eK, e2, h2, x1, e6, e5, d1, w1, q0, q1, hb, c1, c2, ht, vpS B1 rfl]
        refine .next hlt ⟨.ms 21 (ver + 1 + 1) 0 ((sel k (P52 c t)).length + 1) ((sel k (P52 c t)).length + 1), ?_, ?_, ?_, ?_, ?_, SlB.mk ?_ ?_ ?_, by omega⟩ <;> simp -implicitDefEqProofs only [go_sem, eK, e2, h2, x1, e6, w1, hs, List.map_append, List.length_append]
    | false =>
      have hs : sel (k + 1) (P52 c t) = sel k (P52 c t) := by rw [sel_succ, if_neg (by simp [hp])]; simp
      have hq : mayB c t k = false := hp
      rw [hq] at B1
      simp -implicitDefEqProofs only [go_sem, ir52_l0, eK, e2, h2, x1, e6, e5, d1, w1, q0, q1, vpS B1 rfl]
      refine .next hlt ⟨ov, ?_, ?_, ?_, ?_, ?_, ?_, by omega⟩ <;> (try simp -implicitDefEqProofs only [go_sem, eK, e2, h2, x1, e6, e5, w1])
      rw [hs]; exact ho
  · have : k = c.cells.length := by omega
    subst this
    have d1 : decide ((c.cells.length : Int) < (c.cells.length : Int)) = false := by simp
    simp -implicitDefEqProofs only [go_sem, ir52_l0, eK, e2, h2, e6, d1]
    exact .exit ⟨rfl, ov, by simp -implicitDefEqProofs only [go_sem, e5], ho⟩
theorem FVF_52 (c : Conf) (t : Int) (hc : ConfOk c) : FVF PP shF 52 [.agg (eK c), dI t] (dL (sel c.cells.length (P52 c t))) := by
  refine FVF_ok (F_ok PP52 rfl ⟨by simp [ir52], by simp⟩ ?_)
  simp -implicitDefEqProofs only [go_sem, ir52, eK]
  refine (loop52 c t hc 0 _ ?_).mono ?_
  · refine ⟨_, ?_, ?_, ?_, ?_, ?_, SlB.nil, by omega⟩ <;> simp -implicitDefEqProofs only [go_sem, eK]
  rintro e ⟨E, H⟩ ⟨rfl, ov, e5, ho⟩
  simp only at e5 ho
  simp -implicitDefEqProofs only [go_sem, e5, ho.frz (by decide) (closed_eI _), ho.fresh (by decide) (lits_eI _)]
def P53 (c : Conf) (t : Int) (h : Int) (i : Int) : Bool := mayB c t i && apartB c h i
def L53 (c : Conf) (t : Int) (h : Int) (k : Nat) (w : VSt) : Prop := ∃ ov : DV, gt .bad w.E 3 = .mp 3 1 0 0 ∧ hg w.H 3 = ⟨1, 0, true, [eK c]⟩ ∧ gt .bad w.E 1 = dI t ∧ gt .bad w.E 2 = dI h ∧ gt .bad w.E 8 = dI (k : Nat) ∧ gt .bad w.E 7 = ov ∧ SlB w.H 29 1 ((sel k (P53 c t h)).map eI) ov ∧ k ≤ c.cells.length
def Q53 (c : Conf) (t : Int) (h : Int) (e : Ex) (w : VSt) : Prop := e = .exit 0 ∧ ∃ ov : DV, gt .bad w.E 7 = ov ∧ SlB w.H 29 1 ((sel c.cells.length (P53 c t h)).map eI) ov
theorem loop53 (c : Conf) (t : Int) (h : Int) (hc : ConfOk c) : ∀ k w, L53 c t h k w → Ok (R PP shF 0 31 (.loop ir53_l0) w) (Q53 c t h) := by
  refine Ok_up c.cells.length (L53 c t h) fun k w hI => ?_
  obtain ⟨E, H⟩ := w
  obtain ⟨ov, e2, h2, x1, x2, e6, e5, ho, hk⟩ := hI
  simp only at e2 h2  x1  x2 e6 e5 ho
  have hn := hc.lens.c
  have w1 : IntKind.wrap .i64 ((k : Int) + 1) = ((k + 1 : Nat) : Int) := by rw [w64 (by omega) (by omega)]; rfl
  by_cases hlt : k < c.cells.length
  · have d1 : decide ((k : Int) < (c.cells.length : Int)) = true := by simp; omega
    have q1 : (k : Int) < (c.cells.length : Int) := by omega
    have q0 : (0 : Int) ≤ (k : Int) := by omega
    have B1 := FV_rMay c hc t k
    have B2 := FV_rApart c hc h k
    have hsl := sel_len k (P53 c t h)
    have c1 : ¬ (sel k (P53 c t h)).length + 1 ≤ (sel k (P53 c t h)).length := by omega
    have c2 : ((sel k (P53 c t h)).length + 1) * 8 ≤ 140737488355328 ∧ (sel k (P53 c t h)).length ≤ 9223372036854775806 := by omega
    have ht : List.take (sel k (P53 c t h)).length ((sel k (P53 c t h)).map eI) = (sel k (P53 c t h)).map eI := List.take_of_length_le (by simp)
    cases hp : P53 c t h k with
    | true =>
      have hs : sel (k + 1) (P53 c t h) = sel k (P53 c t h) ++ [(k : Int)] := by rw [sel_succ, if_pos hp]
      have hq : mayB c t k = true ∧ apartB c h k = true := by simpa [P53] using hp
      rw [hq.1] at B1
      rw [hq.2] at B2
      rcases ho with ⟨hz, rfl⟩ | ⟨hz, ver, rfl, hb⟩
      · simp -implicitDefEqProofs only [go_sem, ir53_l0, eK, e2, h2, x1, x2, e6, e5, d1, w1, q0, q1, vpS B1 rfl, vpS B2 rfl]
        refine .next hlt ⟨.ms 29 ((hg H 29).ver + 1) 0 1 1, ?_, ?_, ?_, ?_, ?_, ?_, SlB.mk ?_ ?_ ?_, by omega⟩ <;> simp -implicitDefEqProofs only [go_sem, eK, e2, h2, x1, x2, e6, w1, hs, List.map_append, hz]
      · simp -implicitDefEqProofs only [go_sem, ir53_l0, eK, e2, h2, x1, x2, e6, e5, d1, w1, q0, q1, hb, c1, c2, ht, vpS B1 rfl, vpS B2 rfl]
        refine .next hlt ⟨.ms 29 (ver + 1 + 1) 0 ((sel k (P53 c t h)).length + 1) ((sel k (P53 c t h)).length + 1), ?_, ?_, ?_, ?_, ?_, ?_, SlB.mk ?_ ?_ ?_, by omega⟩ <;> simp -implicitDefEqProofs only [go_sem, eK, e2, h2, x1, x2, e6, w1, hs, List.map_append, List.length_append]
    | false =>
      have hs : sel (k + 1) (P53 c t h) = sel k (P53 c t h) := by rw [sel_succ, if_neg (by simp [hp])]; simp
      cases hm : mayB c t k with
      | true =>
        have hq : apartB c h k = false := by simpa [P53, hm] using hp
        rw [hm] at B1
        rw [hq] at B2
        simp -implicitDefEqProofs only [go_sem, ir53_l0, eK, e2, h2, x1, x2, e6, e5, d1, w1, q0, q1, vpS B1 rfl, vpS B2 rfl]
        refine .next hlt ⟨ov, ?_, ?_, ?_, ?_, ?_, ?_, ?_, by omega⟩ <;> (try simp -implicitDefEqProofs only [go_sem, eK, e2, h2, x1, x2, e6, e5, w1])
        rw [hs]; exact ho
      | false =>
        rw [hm] at B1
        simp -implicitDefEqProofs only [go_sem, ir53_l0, eK, e2, h2, x1, x2, e6, e5, d1, w1, q0, q1, vpS B1 rfl, vpS B2 rfl]
        refine .next hlt ⟨ov, ?_, ?_, ?_, ?_, ?_, ?_, ?_, by omega⟩ <;> (try simp -implicitDefEqProofs only [go_sem, eK, e2, h2, x1, x2, e6, e5, w1])
        rw [hs]; exact ho
  · have : k = c.cells.length := by omega
    subst this
    have d1 : decide ((c.cells.length : Int) < (c.cells.length : Int)) = false := by simp
    simp -implicitDefEqProofs only [go_sem, ir53_l0, eK, e2, h2, e6, d1]
    exact .exit ⟨rfl, ov, by simp -implicitDefEqProofs only [go_sem, e5], ho⟩
theorem FVF_53 (c : Conf) (t : Int) (h : Int) (hc : ConfOk c) : FVF PP shF 53 [.agg (eK c), dI t, dI h] (dL (sel c.cells.length (P53 c t h))) := by
  refine FVF_ok (F_ok PP53 rfl ⟨by simp [ir53], by simp⟩ ?_)
  simp -implicitDefEqProofs only [go_sem, ir53, eK]
  refine (loop53 c t h hc 0 _ ?_).mono ?_
  · refine ⟨_, ?_, ?_, ?_, ?_, ?_, ?_, SlB.nil, by omega⟩ <;> simp -implicitDefEqProofs only [go_sem, eK]
  rintro e ⟨E, H⟩ ⟨rfl, ov, e5, ho⟩
  simp only at e5 ho
  simp -implicitDefEqProofs only [go_sem, e5, ho.frz (by decide) (closed_eI _), ho.fresh (by decide) (lits_eI _)]
theorem cell_ex (L : List Int) (i : Nat) (c : Conf) (hc : ConfOk c) (hL : I64s L) (hi : i < 100000000) :
    ∃ (v : Int) (i' : Nat), -1 ≤ v ∧ v < c.cells.length ∧ i ≤ i' ∧ i' ≤ i + 2 ∧ ∀ (H : VHeap) (b ver base : Nat), hg H b = tapeB ver L i → H.length ≤ base →
      F PP shF 49 [.mp b ver 0 0, .agg (eK c)] H base = some (dI v, hs (hs H (base + 3) ⟨1, 0, true, [eK c]⟩) b (tapeB ver L i')) := by
  obtain ⟨y, i1, hy1, hy2, hF⟩ := Yes_ex L i 9 hL (by omega) (by omega) (by omega)
  have hcl : 1 ≤ c.cells.length ∧ c.cells.length ≤ 7 := by have := hc.c0; have := hc.z0; have := hc.r0; have := hc.c1; omega
  have key : ∀ (H : VHeap) (b ver base : Nat), hg H b = tapeB ver L i → H.length ≤ base → b < base ∧ (hg H (base + 3)).ver = 0 ∧ base + 3 ≠ b := by
    intro H b ver base hb hbase
    have h1 := hg_lt (H := H) (b := b) (by rw [hb])
    refine ⟨by omega, by rw [hg_ge H (by omega)], by omega⟩
  cases y with
  | true =>
    refine ⟨-1, i1, by omega, by omega, by omega, by omega, fun H b ver base hb hbase => ?_⟩
    obtain ⟨k1, k2, k3⟩ := key H b ver base hb hbase
    rw [F_fun PP49 rfl ⟨by simp [ir49], by simpa using hbase⟩]
    simp -implicitDefEqProofs only [go_sem, ir49, eK, hb, k2, k3, hF]
  | false =>
    obtain ⟨v, i2, v1, v2, v3, v4, hG⟩ := Next_ex L i1 c.cells.length hL (by omega) (by omega) (by omega)
    refine ⟨v, i2, by omega, by omega, by omega, by omega, fun H b ver base hb hbase => ?_⟩
    obtain ⟨k1, k2, k3⟩ := key H b ver base hb hbase
    have k4 : ¬ b = base + 3 := by omega
    rw [F_fun PP49 rfl ⟨by simp [ir49], by simpa using hbase⟩]
    simp -implicitDefEqProofs only [go_sem, ir49, eK, hb, k2, k3, k4, hF, hG]
    rw [hs_hs]
theorem pick_ex (L : List Int) (i : Nat) (l : List Int) (hl : l.length ≤ 1000) (hL : I64s L) (hi : i < 100000000) :
    ∃ (v : Int) (i' : Nat), (v = -1 ∨ v ∈ l) ∧ i ≤ i' ∧ i' ≤ i + 1 ∧ ∀ (H : VHeap) (b ver base : Nat), hg H b = tapeB ver L i → H.length ≤ base →
      F PP shF 51 [.mp b ver 0 0, dL l] H base = some (dI v, hs H b (tapeB ver L i')) := by
  by_cases h0 : l.length = 0
  · refine ⟨-1, i, .inl rfl, by omega, by omega, fun H b ver base hb hbase => ?_⟩
    have hself : hs H b (tapeB ver L i) = H := by rw [← hb]; exact hs_self (hg_lt (by rw [hb]))
    rw [F_fun PP51 rfl ⟨by simp [ir51], by simpa using hbase⟩, hself]
    have d1 : ((l.length : Int) == 0) = true := by simp; exact List.eq_nil_of_length_eq_zero h0
    simp -implicitDefEqProofs only [go_sem, ir51, d1]
  · obtain ⟨v, i2, v1, v2, v3, v4, hG⟩ := Next_ex L i l.length hL (by omega) (by omega) (by omega)
    have hg1 := getD_at (l := l) (i := v.toNat) (d := 0) (by omega)
    refine ⟨l.getD v.toNat 0, i2, .inr (List.mem_of_getElem? hg1), v3, v4, fun H b ver base hb hbase => ?_⟩
    rw [F_fun PP51 rfl ⟨by simp [ir51], by simpa using hbase⟩]
    have d1 : ((l.length : Int) == 0) = false := by simp; intro h; rw [h] at h0; simp at h0
    simp -implicitDefEqProofs only [go_sem, ir51, d1, hb, hG, v1, v2, hg1]
/-- A place out of a tape. -/
structure PlcOk (c : Conf) (p : Plc) : Prop where
  h0 : -1 ≤ p.home
  h1 : p.home < c.cells.length
  s0 : -1 ≤ p.sby
  s1 : p.sby < c.cells.length
def L14 (L : List Int) (c : Conf) (k : Nat) (w : VSt) : Prop := ∃ (ps : List Plc) (i : Nat) (ov : DV), gt .bad w.E 3 = .mp 3 1 0 0 ∧ hg w.H 3 = ⟨1, 0, true, [eK c]⟩ ∧ gt .bad w.E 5 = .mp 10 1 0 0 ∧ hg w.H 10 = tapeB 1 L i ∧
  gt .bad w.E 6 = ov ∧ SlB w.H 45 2 (ps.map eP) ov ∧ gt .bad w.E 7 = dI (k : Nat) ∧ ps.length = k ∧ k ≤ c.tens.length ∧ i ≤ 10 * k ∧ ∀ p, p ∈ ps → PlcOk c p
def Q14 (c : Conf) (e : Ex) (w : VSt) : Prop := e = .exit 0 ∧ ∃ (ps : List Plc) (ov : DV), gt .bad w.E 6 = ov ∧ SlB w.H 45 2 (ps.map eP) ov ∧ ps.length = c.tens.length ∧ ∀ p, p ∈ ps → PlcOk c p
theorem places_l0 (L : List Int) (hL : I64s L) (c : Conf) (hc : ConfOk c) : ∀ k w, L14 L c k w → Ok (R PP shF 0 47 (.loop ir14_l0) w) (Q14 c) := by
  refine Ok_up c.tens.length (L14 L c) fun k w hI => ?_
  obtain ⟨E, H⟩ := w
  obtain ⟨ps, i, ov, e3, h3, e5, h10, e6, ho, e7, len, hk, hi, rg⟩ := hI
  simp only at e3 h3 e5 h10 e6 ho e7
  have ht5 := hc.t1
  have w1 : IntKind.wrap .i64 ((k : Int) + 1) = ((k + 1 : Nat) : Int) := by rw [w64 (by omega) (by omega)]; rfl
  by_cases hlt : k < c.tens.length
  · have d1 : decide ((k : Int) < (c.tens.length : Int)) = true := by simp; omega
    obtain ⟨a, i1, a1, a2, a3, a4, F1⟩ := cell_ex L i c hc hL (by omega)
    obtain ⟨b, i2, b1, b2, b3, b4, F2⟩ := cell_ex L i1 c hc hL (by omega)
    obtain ⟨n, i3, n1, n2, n3, n4, F3⟩ := Next_ex L i2 3 hL (by omega) (by omega) (by omega)
    have hcl := hc.lens.c
    have H1 := FVF_52 c (k : Nat) hc
    obtain ⟨u, i4, u1, u2, u3, F4⟩ := pick_ex L i3 (sel c.cells.length (P52 c (k : Nat))) (Nat.le_trans (sel_len _ _) hcl) hL (by omega)
    have H2 := FVF_53 c (k : Nat) u hc
    obtain ⟨x, i5, x1, x2, x3, F5⟩ := pick_ex L i4 (sel c.cells.length (P53 c (k : Nat) u)) (Nat.le_trans (sel_len _ _) hcl) hL (by omega)
    have c1 : ¬ ps.length + 1 ≤ ps.length := by omega
    have c2 : (ps.length + 1) * 16 ≤ 140737488355328 ∧ ps.length ≤ 9223372036854775806 := by omega
    have hts : List.take ps.length (ps.map eP) = ps.map eP := List.take_of_length_le (by simp)
    have hm : ∀ q, PlcOk c q → ∀ p, p ∈ ps ++ [q] → PlcOk c p := by
      intro q hq p hp
      rcases List.mem_append.1 hp with hp | hp
      · exact rg p hp
      · simp at hp; subst hp; exact hq
    have hab : PlcOk c ⟨a, b⟩ := ⟨a1, a2, b1, b2⟩
    have hux : PlcOk c ⟨u, x⟩ := by
      have q1 : -1 ≤ u ∧ u < c.cells.length := by
        rcases u1 with rfl | h
        · omega
        · have := mem_sel.1 h; omega
      have q2 : -1 ≤ x ∧ x < c.cells.length := by
        rcases x1 with rfl | h
        · omega
        · have := mem_sel.1 h; omega
      exact ⟨q1.1, q1.2, q2.1, q2.2⟩
    by_cases hn : 0 < n
    · have d2 : decide (0 < n) = true := by simpa using hn
      rcases ho with ⟨hz, rfl⟩ | ⟨hz, ver, rfl, hb⟩
      · simp -implicitDefEqProofs only [go_sem, ir14_l0, eK, e3, h3, e5, h10, e6, e7, d1, w1, F1, F2, F3, d2, vpF H1 rfl, F4, vpF H2 rfl, F5]
        refine .next hlt ⟨ps ++ [⟨u, x⟩], i5, .ms 45 ((hg H 45).ver + 1) 0 1 1, ?_, ?_, ?_, ?_, ?_, SlB.mk ?_ ?_ ?_, ?_, by simp; omega, by omega, by omega, hm _ hux⟩ <;> simp -implicitDefEqProofs only [go_sem, eK, e3, h3, e5, h10, e6, e7, w1, List.map_append, hz]
      · simp -implicitDefEqProofs only [go_sem, ir14_l0, eK, e3, h3, e5, h10, e6, e7, d1, w1, F1, F2, F3, d2, vpF H1 rfl, F4, vpF H2 rfl, F5, hb, c1, c2, hts]
        refine .next hlt ⟨ps ++ [⟨u, x⟩], i5, .ms 45 (ver + 1 + 1) 0 (ps.length + 1) (ps.length + 1), ?_, ?_, ?_, ?_, ?_, SlB.mk ?_ ?_ ?_, ?_, by simp; omega, by omega, by omega, hm _ hux⟩ <;> simp -implicitDefEqProofs only [go_sem, eK, e3, h3, e5, h10, e6, e7, w1, List.map_append, List.length_append]
    · have d2 : decide (0 < n) = false := by simpa using hn
      rcases ho with ⟨hz, rfl⟩ | ⟨hz, ver, rfl, hb⟩
      · simp -implicitDefEqProofs only [go_sem, ir14_l0, eK, e3, h3, e5, h10, e6, e7, d1, w1, F1, F2, F3, d2]
        refine .next hlt ⟨ps ++ [⟨a, b⟩], i3, .ms 45 ((hg H 45).ver + 1) 0 1 1, ?_, ?_, ?_, ?_, ?_, SlB.mk ?_ ?_ ?_, ?_, by simp; omega, by omega, by omega, hm _ hab⟩ <;> simp -implicitDefEqProofs only [go_sem, eK, e3, h3, e5, h10, e6, e7, w1, List.map_append, hz]
      · simp -implicitDefEqProofs only [go_sem, ir14_l0, eK, e3, h3, e5, h10, e6, e7, d1, w1, F1, F2, F3, d2, hb, c1, c2, hts]
        refine .next hlt ⟨ps ++ [⟨a, b⟩], i3, .ms 45 (ver + 1 + 1) 0 (ps.length + 1) (ps.length + 1), ?_, ?_, ?_, ?_, ?_, SlB.mk ?_ ?_ ?_, ?_, by simp; omega, by omega, by omega, hm _ hab⟩ <;> simp -implicitDefEqProofs only [go_sem, eK, e3, h3, e5, h10, e6, e7, w1, List.map_append, List.length_append]
  · have : k = c.tens.length := by omega
    subst this
    have d1 : decide ((c.tens.length : Int) < (c.tens.length : Int)) = false := by simp
    simp -implicitDefEqProofs only [go_sem, ir14_l0, eK, e3, h3, e7, d1]
    exact .exit ⟨rfl, ps, ov, by simp -implicitDefEqProofs only [go_sem, e6], ho, len, rg⟩
theorem closed_eP (l : List Plc) : (l.map eP).all closedL = true := by simp [List.all_eq_true, closedL, closedD]
theorem lits_eP (l : List Plc) : (l.map eP).all (fun el => el.all lit1) = true := by simp [List.all_eq_true, lit1]
/-- A problem out of a tape. -/
theorem FV_Problem (l : List Int) (hl : I64s l) (cells : Int) (hcells : I64 cells) (hr : Bool) : ∃ p : Prob, ConfOk p.conf ∧ I64 p.cells ∧ p.head = hr ∧ FV PP shF 13 [dL l, dI cells, dB hr] = some (.agg (eQ p)) := by
  obtain ⟨c, hc, hF⟩ := FV_Config l hl
  have hcl : 1 ≤ c.cells.length ∧ c.cells.length ≤ 7 := by have := hc.c0; have := hc.z0; have := hc.r0; have := hc.c1; omega
  have M := FV_Mod cells 3 hcells (by decide) (by decide)
  have hu : IntKind.wrap .u64 (c.cells.length : Int) = (c.cells.length : Int) := wu64 (by omega) (by omega)
  have nr : ¬ (c.cells.length : Int) < 0 := by omega
  have hA : ∃ A : Int, I64 A ∧ IntKind.wrap .i64 (IntKind.wrap .i64 (1 * 2 ^ min ((c.cells.length : Int)).toNat 64) - 1) = A := by
    refine ⟨_, ?_, rfl⟩
    have : c.cells.length = 1 ∨ c.cells.length = 2 ∨ c.cells.length = 3 ∨ c.cells.length = 4 ∨ c.cells.length = 5 ∨ c.cells.length = 6 ∨ c.cells.length = 7 := by omega
    rcases this with h | h | h | h | h | h | h <;> rw [h] <;> exact ⟨by decide +kernel, by decide +kernel⟩
  obtain ⟨A, hA, wA⟩ := hA
  simp only [Int.toNat_natCast] at wA
  by_cases h0 : cells % 3 = 0
  · have d1 : (cells % 3 == 0) = true := by simpa using h0
    refine ⟨⟨c, cells, hr⟩, hc, hcells, rfl, FV_ok (F_ok PP13 rfl ⟨by simp [ir13], by simp⟩ ?_)⟩
    simp -implicitDefEqProofs only [go_sem, ir13, vpL hF rfl, eK, hu, nr, wA, vpS M rfl, d1]
  · have d1 : (cells % 3 == 0) = false := by simpa using h0
    refine ⟨⟨c, A, hr⟩, hc, hA, rfl, FV_ok (F_ok PP13 rfl ⟨by simp [ir13], by simp⟩ ?_)⟩
    simp -implicitDefEqProofs only [go_sem, ir13, vpL hF rfl, eK, hu, nr, wA, vpS M rfl, d1]
def ten (c : Conf) (t : Int) : Ten := c.tens.getD t.toNat ⟨0, 0, 0, 0, 0, 0, false⟩
theorem FV_between (n lo hi : Int) : FV PP shF 77 [dI n, dI lo, dI hi] = some (dB (decide (lo ≤ n) && decide (n ≤ hi))) := by
  refine FV_ok (F_ok PP77 rfl ⟨by simp [ir77], by simp⟩ ?_)
  by_cases h : lo ≤ n
  · simp -implicitDefEqProofs only [go_sem, ir77, h]
  · simp -implicitDefEqProofs only [go_sem, ir77, h]
theorem FV_May (c : Conf) (hc : ConfOk c) (t i : Int) (h0 : 0 ≤ i) (h1 : i < c.cells.length) : FV PP shF 55 [.agg (eK c), dI t, dI i] = some (dB (mayB c t i)) := by
  refine FV_ok (F_ok PP55 rfl ⟨by simp [ir55], by simp⟩ ?_)
  have hr := hc.regOf h0 h1
  have hr1 := hc.r1
  have hl := hc.t1
  have w : IntKind.wrap .i64 ((c.tens.length : Int) - 1) = (c.tens.length : Int) - 1 := w64 (by omega) (by omega)
  have B := FV_between t 0 ((c.tens.length : Int) - 1)
  have B2 := FV_between (Cp.regOf c i) 0 3
  rw [show (decide (0 ≤ Cp.regOf c i) && decide (Cp.regOf c i ≤ 3)) = true by simp; omega] at B2
  have hs := shr_div (ten c t).allowed (Cp.regOf c i) hr.1 (by omega)
  unfold mayB has
  have g4 : Cp.regOf c i < 62 := by omega
  have nr : ¬ Cp.regOf c i < 0 := by omega
  by_cases h : 0 ≤ t ∧ t < c.tens.length
  · rw [show (decide (0 ≤ t) && decide (t ≤ (c.tens.length : Int) - 1)) = true by simp; omega] at B
    have hg := getD_at (l := c.tens) (i := t.toNat) (d := ⟨0, 0, 0, 0, 0, 0, false⟩) (by omega)
    simp -implicitDefEqProofs only [go_sem, ir55, eK, w, vpS (FV_RegionOf c hc.lens i) rfl, vpS B rfl, vpS B2 rfl, h, hg, nr, ten] at hs ⊢
    simp -implicitDefEqProofs only [go_sem, hs, and1, hr, g4, bit]
    rfl
  · rw [show (decide (0 ≤ t) && decide (t ≤ (c.tens.length : Int) - 1)) = false by simp; omega] at B
    have : (decide (0 ≤ t) && decide (t < (c.tens.length : Int))) = false := by simp; omega
    simp -implicitDefEqProofs only [go_sem, ir55, eK, w, vpS (FV_RegionOf c hc.lens i) rfl, vpS B rfl, this]
theorem FV_usable (p : Prob) (i : Int) (h0 : 0 ≤ i) (h1 : i ≤ 64) : FV PP shF 54 [.agg (eQ p), dI i] = some (dB (bit p.cells i)) := by
  refine FV_ok (F_ok PP54 rfl ⟨by simp [ir54], by simp⟩ ?_)
  have hs := shr_div p.cells i h0 h1
  have nr : ¬ i < 0 := by omega
  simp -implicitDefEqProofs only [go_sem, ir54, nr, hs, and1, bit]
  rfl
/-- Whether a tenant may use a cell of a problem. -/
def okB (p : Prob) (t i : Int) : Bool := bit p.cells i && mayB p.conf t i
def reach (p : Prob) (t : Int) : Nat → Int
  | 0 => 0
  | k + 1 => if okB p t k = true then orI .i64 (reach p t k) (2 ^ (regOf p.conf k).toNat) else reach p t k
theorem shl1 {r : Int} (h0 : 0 ≤ r) (h1 : r < 4) : IntKind.wrap .i64 (1 * 2 ^ min r.toNat 64) = 2 ^ r.toNat := by
  obtain rfl | rfl | rfl | rfl : r = 0 ∨ r = 1 ∨ r = 2 ∨ r = 3 := by omega
  all_goals rfl
def L17 (p : Prob) (t : Int) (k : Nat) (w : VSt) : Prop := gt .bad w.E 1 = dI t ∧ gt .bad w.E 2 = .mp 2 1 0 0 ∧ hg w.H 2 = ⟨1, 0, true, [eQ p]⟩ ∧ gt .bad w.E 5 = dI (reach p t k) ∧ gt .bad w.E 10 = dI (p.conf.cells.length : Nat) ∧ gt .bad w.E 11 = dI (k : Nat) ∧ k ≤ p.conf.cells.length
theorem reach_l0 (p : Prob) (hc : ConfOk p.conf) (t : Int) : ∀ k w, L17 p t k w → Ok (R PP shF 0 33 (.loop ir17_l0) w) (fun e w => e = .exit 0 ∧ gt .bad w.E 5 = dI (reach p t p.conf.cells.length)) := by
  refine Ok_up p.conf.cells.length (L17 p t) fun k w hI => ?_
  obtain ⟨E, H⟩ := w
  obtain ⟨e1, e2, h2, e5, e10, e11, hk⟩ := hI
  simp only at e1 e2 h2 e5 e10 e11
  have hn := hc.lens.c
  have hn7 := hc.c1
  have w1 : IntKind.wrap .i64 ((k : Int) + 1) = ((k + 1 : Nat) : Int) := by rw [w64 (by omega) (by omega)]; rfl
  by_cases hlt : k < p.conf.cells.length
  · have d1 : decide ((k : Int) < (p.conf.cells.length : Int)) = true := by simp; omega
    have B1 := FV_usable p k (by omega) (by omega)
    have B2 := FV_May p.conf hc t k (by omega) (by omega)
    have B3 := FV_RegionOf p.conf hc.lens k
    have hr := hc.regOf (i := (k : Int)) (by omega) (by omega)
    have hr1 := hc.r1
    have hs := shl1 hr.1 (by omega)
    have nr : ¬ regOf p.conf k < 0 := by omega
    cases hb : bit p.cells k with
    | true =>
      rw [hb] at B1
      cases hm : mayB p.conf t k with
      | true =>
        rw [hm] at B2
        have hu : reach p t (k + 1) = orI .i64 (reach p t k) (2 ^ (regOf p.conf k).toNat) := by simp [reach, okB, hb, hm]
        simp -implicitDefEqProofs only [go_sem, ir17_l0, eQ, eK, e1, e2, h2, e5, e10, e11, d1, w1, vpS B1 rfl, vpS B2 rfl, vpS B3 rfl, hs, nr]
        refine .next hlt ⟨?_, ?_, ?_, ?_, ?_, ?_, by omega⟩ <;> simp -implicitDefEqProofs only [go_sem, e1, e2, h2, e10, w1, hu, eQ]
      | false =>
        rw [hm] at B2
        have hu : reach p t (k + 1) = reach p t k := by simp [reach, okB, hb, hm]
        simp -implicitDefEqProofs only [go_sem, ir17_l0, eQ, eK, e1, e2, h2, e5, e10, e11, d1, w1, vpS B1 rfl, vpS B2 rfl, vpS B3 rfl, hs]
        refine .next hlt ⟨?_, ?_, ?_, ?_, ?_, ?_, by omega⟩ <;> simp -implicitDefEqProofs only [go_sem, e1, e2, h2, e5, e10, w1, hu, eQ]
    | false =>
      rw [hb] at B1
      have hu : reach p t (k + 1) = reach p t k := by simp [reach, okB, hb]
      simp -implicitDefEqProofs only [go_sem, ir17_l0, eQ, eK, e1, e2, h2, e5, e10, e11, d1, w1, vpS B1 rfl, vpS B2 rfl, vpS B3 rfl, hs]
      refine .next hlt ⟨?_, ?_, ?_, ?_, ?_, ?_, by omega⟩ <;> simp -implicitDefEqProofs only [go_sem, e1, e2, h2, e5, e10, w1, hu, eQ]
  · have : k = p.conf.cells.length := by omega
    subst this
    have d1 : decide ((p.conf.cells.length : Int) < (p.conf.cells.length : Int)) = false := by simp
    simp -implicitDefEqProofs only [go_sem, ir17_l0, e10, e11, d1]
    exact .exit ⟨rfl, by simp -implicitDefEqProofs only [go_sem, e5]⟩
theorem FV_Reach (p : Prob) (hc : ConfOk p.conf) (t : Int) : FV PP shF 17 [.agg (eQ p), dI t] = some (dI (reach p t p.conf.cells.length)) := by
  refine FV_ok (F_ok PP17 rfl ⟨by simp [ir17], by simp⟩ ?_)
  simp -implicitDefEqProofs only [go_sem, ir17]
  refine (reach_l0 p hc t 0 _ ?_).mono ?_
  · refine ⟨?_, ?_, ?_, ?_, ?_, ?_, by omega⟩ <;> simp -implicitDefEqProofs only [go_sem, eQ, reach]
  rintro e ⟨E, H⟩ ⟨rfl, e5⟩
  simp only at e5
  simp -implicitDefEqProofs only [go_sem, e5]
def plc (ps : List Plc) (k : Nat) : Plc := ps.getD k ⟨0, 0⟩
def addAt (l : List Int) (i x : Int) : List Int := if 0 ≤ i ∧ i < l.length then l.set i.toNat (l.getD i.toNat 0 + x) else l
def booked (c : Conf) (ps : List Plc) : Nat → List Int
  | 0 => List.replicate c.cells.length 0
  | k + 1 => addAt (addAt (booked c ps k) (plc ps k).home (ten c k).load) (plc ps k).sby (ten c k).shadow
theorem addAt_len (l : List Int) (i x : Int) : (addAt l i x).length = l.length := by unfold addAt; split <;> simp
theorem booked_len (c : Conf) (ps : List Plc) : ∀ k, (booked c ps k).length = c.cells.length
  | 0 => by simp [booked]
  | k + 1 => by simp [booked, addAt_len, booked_len c ps k]
theorem addAt_bd {l : List Int} {i x B X : Int} (h : ∀ j : Nat, 0 ≤ l.getD j 0 ∧ l.getD j 0 ≤ B) (hx : 0 ≤ x ∧ x ≤ X) : ∀ j : Nat, 0 ≤ (addAt l i x).getD j 0 ∧ (addAt l i x).getD j 0 ≤ B + X := by
  intro j
  have hj := h j
  unfold addAt
  split
  · rename_i hi
    by_cases hji : i.toNat = j
    · subst hji
      have hlt : i.toNat < l.length := by omega
      have : (l.set i.toNat (l.getD i.toNat 0 + x)).getD i.toNat 0 = l.getD i.toNat 0 + x := by
        rw [List.getD_eq_getElem?_getD, List.getElem?_set_self hlt]; rfl
      rw [this]; omega
    · have : (l.set i.toNat (l.getD i.toNat 0 + x)).getD j 0 = l.getD j 0 := by
        rw [List.getD_eq_getElem?_getD, List.getElem?_set_ne hji, ← List.getD_eq_getElem?_getD]
      rw [this]; omega
  · omega
theorem ten_ok {c : Conf} (hc : ConfOk c) {k : Nat} (hk : k < c.tens.length) : TenOk c.regions (ten c k) := by
  have hg := getD_at (l := c.tens) (i := k) (d := ⟨0, 0, 0, 0, 0, 0, false⟩) hk
  exact hc.ts _ (List.mem_of_getElem? hg)
theorem booked_bd {c : Conf} (hc : ConfOk c) (ps : List Plc) : ∀ k : Nat, k ≤ c.tens.length → ∀ j : Nat, 0 ≤ (booked c ps k).getD j 0 ∧ (booked c ps k).getD j 0 ≤ 24 * k
  | 0, _, j => by
    have : (List.replicate c.cells.length (0 : Int)).getD j 0 = 0 := by
      rw [List.getD_eq_getElem?_getD, List.getElem?_replicate]; split <;> rfl
    simp only [booked, this]; omega
  | k + 1, hk, j => by
    have h1 := booked_bd hc ps k (by omega)
    have ht := ten_ok hc (k := k) (by omega)
    have h2 := addAt_bd (i := (plc ps k).home) (x := (ten c k).load) (X := 12) h1 ⟨by have := ht.l0; omega, ht.l1⟩
    have h3 := addAt_bd (i := (plc ps k).sby) (x := (ten c k).shadow) (X := 12) h2 ⟨ht.s0, by have := ht.s1; have := ht.l1; omega⟩ j
    simp only [booked]
    push_cast
    omega
theorem addAt_def (l : List Int) (i x : Int) : (0 ≤ i ∧ i < l.length → (l.map eI).set i.toNat [dI (l.getD i.toNat 0 + x)] = (addAt l i x).map eI) ∧ (¬ (0 ≤ i ∧ i < l.length) → addAt l i x = l) := by
  unfold addAt
  constructor
  · intro h; rw [if_pos h, List.map_set]
  · intro h; rw [if_neg h]
theorem FV_cell (p : Prob) (n : Int) : FV PP shF 59 [.agg (eQ p), dI n] = some (dB (decide (0 ≤ n) && decide (n < p.conf.cells.length))) := by
  refine FV_ok (F_ok PP59 rfl ⟨by simp [ir59], by simp⟩ ?_)
  by_cases h : 0 ≤ n
  · simp -implicitDefEqProofs only [go_sem, ir59, eQ, h]
  · simp -implicitDefEqProofs only [go_sem, ir59, eQ, h]
def L25 (p : Prob) (ps : List Plc) (N : Nat) (k : Nat) (w : VSt) : Prop := ∃ ver : Nat, gt .bad w.E 2 = .mp 2 1 0 0 ∧ hg w.H 2 = ⟨1, 0, true, [eQ p]⟩ ∧ gt .bad w.E 5 = .ms 13 ver 0 p.conf.cells.length p.conf.cells.length ∧ hg w.H 13 = ⟨ver, 1, true, (booked p.conf ps k).map eI⟩ ∧
  gt .bad w.E 22 = .sl ((ps.take N).map eP) ∧ gt .bad w.E 23 = dI (N : Nat) ∧ gt .bad w.E 24 = dI (k : Nat) ∧ k ≤ N
def Q25 (p : Prob) (ps : List Plc) (N : Nat) (e : Ex) (w : VSt) : Prop := e = .exit 0 ∧ ∃ ver : Nat, gt .bad w.E 5 = .ms 13 ver 0 p.conf.cells.length p.conf.cells.length ∧ hg w.H 13 = ⟨ver, 1, true, (booked p.conf ps N).map eI⟩
theorem booked_l0 (p : Prob) (hc : ConfOk p.conf) (ps : List Plc) (N : Nat) (hN : N ≤ ps.length) (hN2 : N ≤ p.conf.tens.length) : ∀ k w, L25 p ps N k w → Ok (R PP shF 0 63 (.loop ir25_l0) w) (Q25 p ps N) := by
  refine Ok_up N (L25 p ps N) fun k w hI => ?_
  obtain ⟨E, H⟩ := w
  obtain ⟨ver, e2, h2, e5, h5, e22, e23, e24, hk⟩ := hI
  simp only at e2 h2 e5 h5 e22 e23 e24
  have hn := hc.lens.c
  have hn7 := hc.c1
  have ht5 := hc.t1
  have w1 : IntKind.wrap .i64 ((k : Int) + 1) = ((k + 1 : Nat) : Int) := by rw [w64 (by omega) (by omega)]; rfl
  by_cases hlt : k < N
  · have d1 : decide ((k : Int) < (N : Int)) = true := by simp; omega
    have q1 : (k : Int) < ((min N ps.length : Nat) : Int) := by omega
    have q1b : (k : Int) < (N : Int) ∧ (k : Int) < (ps.length : Int) := by omega
    have q0 : (0 : Int) ≤ (k : Int) := by omega
    have g1 := getD_at (l := ps) (i := k) (d := ⟨0, 0⟩) (by omega)
    have g2 := getD_at (l := p.conf.tens) (i := k) (d := ⟨0, 0, 0, 0, 0, 0, false⟩) (by omega)
    have q2 : (k : Int) < (p.conf.tens.length : Int) := by omega
    have B1 := FV_cell p (plc ps k).home
    have B2 := FV_cell p (plc ps k).sby
    have ht := ten_ok hc (k := k) (by omega)
    have tk : (List.take N ps)[k]? = some (plc ps k) := by rw [List.getElem?_take, if_pos hlt]; exact g1
    have tl : (k : Int) < ((List.take N ps).length : Int) := by rw [List.length_take]; omega
    have D1 := addAt_def (booked p.conf ps k) (plc ps k).home (ten p.conf k).load
    have D2 := addAt_def (addAt (booked p.conf ps k) (plc ps k).home (ten p.conf k).load) (plc ps k).sby (ten p.conf k).shadow
    have bd1 := booked_bd hc ps k (by omega)
    have bd2 := addAt_bd (i := (plc ps k).home) (x := (ten p.conf k).load) (X := 12) bd1 ⟨by have := ht.l0; omega, ht.l1⟩
    have bl1 := booked_len p.conf ps k
    have bl2 := addAt_len (booked p.conf ps k) (plc ps k).home (ten p.conf k).load
    rw [bl1] at bl2
    have hst : booked p.conf ps (k + 1) = addAt (addAt (booked p.conf ps k) (plc ps k).home (ten p.conf k).load) (plc ps k).sby (ten p.conf k).shadow := rfl
    have ht1 : (p.conf.tens.getD k ⟨0, 0, 0, 0, 0, 0, false⟩).load = (ten p.conf k).load := rfl
    have ht2 : (p.conf.tens.getD k ⟨0, 0, 0, 0, 0, 0, false⟩).shadow = (ten p.conf k).shadow := rfl
    have l0 := ht.l0
    have l1 := ht.l1
    have s0 := ht.s0
    have s1 := ht.s1
    generalize hD : booked p.conf ps (k + 1) = bb at *
    generalize hA : addAt (booked p.conf ps k) (plc ps k).home (ten p.conf k).load = A at *
    generalize hB : booked p.conf ps k = B at *
    generalize hC : addAt A (plc ps k).sby (ten p.conf k).shadow = C at *
    subst hst
    by_cases c1 : 0 ≤ (plc ps k).home ∧ (plc ps k).home < p.conf.cells.length
    · have f1 := D1.1 (by rw [bl1]; exact c1)
      have g3 := getD_at (l := B) (i := (plc ps k).home.toNat) (d := 0) (by rw [bl1]; omega)
      have b3 := bd1 (plc ps k).home.toNat
      have w2 : IntKind.wrap .i64 (B.getD (plc ps k).home.toNat 0 + (ten p.conf k).load) = B.getD (plc ps k).home.toNat 0 + (ten p.conf k).load := w64 (by omega) (by omega)
      rw [show (decide (0 ≤ (plc ps k).home) && decide ((plc ps k).home < (p.conf.cells.length : Int))) = true by simp; exact c1] at B1
      by_cases c2 : 0 ≤ (plc ps k).sby ∧ (plc ps k).sby < p.conf.cells.length
      · have f2 := D2.1 (by rw [bl2]; exact c2)
        have g4 := getD_at (l := A) (i := (plc ps k).sby.toNat) (d := 0) (by rw [bl2]; omega)
        have b4 := bd2 (plc ps k).sby.toNat
        have w3 : IntKind.wrap .i64 (A.getD (plc ps k).sby.toNat 0 + (ten p.conf k).shadow) = A.getD (plc ps k).sby.toNat 0 + (ten p.conf k).shadow := w64 (by omega) (by omega)
        rw [show (decide (0 ≤ (plc ps k).sby) && decide ((plc ps k).sby < (p.conf.cells.length : Int))) = true by simp; exact c2] at B2
        simp -implicitDefEqProofs only [go_sem, ir25_l0, eQ, eK, e2, h2, e5, h5, e22, e23, e24, d1, w1, q0, q1, q1b, q2, tk, tl, g2, vpS B1 rfl, vpS B2 rfl, c1, c2, bl1, bl2, g3, g4, ht1, ht2, w2, w3, f1, f2]
        refine .next hlt ⟨ver, ?_, ?_, ?_, ?_, ?_, ?_, ?_, by omega⟩ <;> simp -implicitDefEqProofs only [go_sem, e2, h2, e5, e22, e23, w1, eQ, hD]
      · have f2 := D2.2 (by rw [bl2]; exact c2)
        rw [show (decide (0 ≤ (plc ps k).sby) && decide ((plc ps k).sby < (p.conf.cells.length : Int))) = false by simp; omega] at B2
        simp -implicitDefEqProofs only [go_sem, ir25_l0, eQ, eK, e2, h2, e5, h5, e22, e23, e24, d1, w1, q0, q1, q1b, q2, tk, tl, g2, vpS B1 rfl, vpS B2 rfl, c1, bl1, bl2, g3, ht1, ht2, w2, f1]
        refine .next hlt ⟨ver, ?_, ?_, ?_, ?_, ?_, ?_, ?_, by omega⟩ <;> simp -implicitDefEqProofs only [go_sem, e2, h2, e5, e22, e23, w1, eQ, hD, f2]
    · have f1 := D1.2 (by rw [bl1]; exact c1)
      subst f1
      rw [show (decide (0 ≤ (plc ps k).home) && decide ((plc ps k).home < (p.conf.cells.length : Int))) = false by simp; omega] at B1
      by_cases c2 : 0 ≤ (plc ps k).sby ∧ (plc ps k).sby < p.conf.cells.length
      · have f2 := D2.1 (by rw [bl2]; exact c2)
        have g4 := getD_at (l := A) (i := (plc ps k).sby.toNat) (d := 0) (by rw [bl2]; omega)
        have b4 := bd2 (plc ps k).sby.toNat
        have w3 : IntKind.wrap .i64 (A.getD (plc ps k).sby.toNat 0 + (ten p.conf k).shadow) = A.getD (plc ps k).sby.toNat 0 + (ten p.conf k).shadow := w64 (by omega) (by omega)
        rw [show (decide (0 ≤ (plc ps k).sby) && decide ((plc ps k).sby < (p.conf.cells.length : Int))) = true by simp; exact c2] at B2
        simp -implicitDefEqProofs only [go_sem, ir25_l0, eQ, eK, e2, h2, e5, h5, e22, e23, e24, d1, w1, q0, q1, q1b, q2, tk, tl, g2, vpS B1 rfl, vpS B2 rfl, c2, bl1, bl2, g4, ht1, ht2, w3, f2]
        refine .next hlt ⟨ver, ?_, ?_, ?_, ?_, ?_, ?_, ?_, by omega⟩ <;> simp -implicitDefEqProofs only [go_sem, e2, h2, e5, e22, e23, w1, eQ, hD]
      · have f2 := D2.2 (by rw [bl2]; exact c2)
        rw [show (decide (0 ≤ (plc ps k).sby) && decide ((plc ps k).sby < (p.conf.cells.length : Int))) = false by simp; omega] at B2
        simp -implicitDefEqProofs only [go_sem, ir25_l0, eQ, eK, e2, h2, e5, h5, e22, e23, e24, d1, w1, q0, q1, q1b, q2, tk, tl, g2, vpS B1 rfl, vpS B2 rfl, bl1, bl2, ht1, ht2]
        refine .next hlt ⟨ver, ?_, ?_, ?_, ?_, ?_, ?_, ?_, by omega⟩ <;> simp -implicitDefEqProofs only [go_sem, e2, h2, e5, h5, e22, e23, w1, eQ, hD, f2]
  · have : k = N := by omega
    subst this
    have d1 : decide ((k : Int) < (k : Int)) = false := by simp
    simp -implicitDefEqProofs only [go_sem, ir25_l0, e23, e24, d1]
    exact .exit ⟨rfl, ver, by simp -implicitDefEqProofs only [go_sem, e5], h5⟩
theorem FVF_Booked (p : Prob) (hc : ConfOk p.conf) (ps : List Plc) (hp : ps.length ≤ 1000000) : FVF PP shF 25 [.agg (eQ p), .sl (ps.map eP)] (dL (booked p.conf ps (min ps.length p.conf.tens.length))) := by
  refine FVF_ok (F_ok PP25 rfl ⟨by simp [ir25], by simp⟩ ?_)
  have hn := hc.lens.c
  have hc0 : p.conf.cells.length ≠ 0 := by have := hc.c0; have := hc.z0; have := hc.r0; omega
  have ht := hc.t1
  have m1 : (0 : Int) ≤ (p.conf.cells.length : Int) ∧ (p.conf.cells.length : Int) ≤ (p.conf.cells.length : Int) ∧ ((8 : Nat) : Int) * (p.conf.cells.length : Int) ≤ 281474976710656 ∧ (p.conf.cells.length : Int) ≤ 9223372036854775807 := by omega
  have mn : (if (p.conf.tens.length : Int) < (ps.length : Int) then (p.conf.tens.length : Int) else (ps.length : Int)) = ((min ps.length p.conf.tens.length : Nat) : Int) := by split <;> omega
  have hN1 : min ps.length p.conf.tens.length ≤ ps.length := by omega
  have hN2 : min ps.length p.conf.tens.length ≤ p.conf.tens.length := by omega
  generalize min ps.length p.conf.tens.length = N at *
  have m2 : (0 : Int) ≤ (N : Int) ∧ (N : Int) ≤ (ps.length : Int) := by omega
  have m3 : (List.map eP ps).all (fun el => el.length == 2) = true := by simp [List.all_eq_true]
  have htk : List.take N (ps.map eP) = (ps.take N).map eP := List.map_take.symm
  have hln : ((List.take N ps).length : Int) = (N : Int) := by rw [List.length_take]; omega
  simp -implicitDefEqProofs only [go_sem, ir25, eQ, eK, m1, mn, m2, m3, htk, hln]
  refine (booked_l0 p hc ps N hN1 hN2 0 _ ?_).mono ?_
  · refine ⟨1, ?_, ?_, ?_, ?_, ?_, ?_, ?_, by omega⟩ <;> simp -implicitDefEqProofs only [go_sem, eQ, booked, List.map_replicate]
  rintro e ⟨E, H⟩ ⟨rfl, ver, e5, h5⟩
  simp only at e5 h5
  have ho : SlB H 13 1 ((booked p.conf ps N).map eI) (.ms 13 ver 0 p.conf.cells.length p.conf.cells.length) := SlB.mk (by simp [booked_len]) hc0 h5
  simp -implicitDefEqProofs only [go_sem, e5, ho.frz (by decide) (closed_eI _), ho.fresh (by decide) (lits_eI _)]
def insideB (c : Conf) (n r : Int) : Bool := decide (0 ≤ regOf c n) && (regOf c n == r)
theorem FV_inside (p : Prob) (hc : Lens p.conf) (n r : Int) : FV PP shF 113 [.agg (eQ p), dI n, dI r] = some (dB (insideB p.conf n r)) := by
  refine FV_ok (F_ok PP113 rfl ⟨by simp [ir113], by simp⟩ ?_)
  unfold insideB
  by_cases h : 0 ≤ regOf p.conf n
  · simp -implicitDefEqProofs only [go_sem, ir113, eQ, eK, vpS (FV_RegionOf p.conf hc n) rfl, h]
  · simp -implicitDefEqProofs only [go_sem, ir113, eQ, eK, vpS (FV_RegionOf p.conf hc n) rfl, h]
def exC (c : Conf) (ps : List Plc) (r : Int) (k : Nat) : Bool := insideB c (plc ps k).home r && (decide (0 ≤ (plc ps k).sby) && decide ((plc ps k).sby < c.cells.length)) && !insideB c (plc ps k).sby r
def extra (c : Conf) (ps : List Plc) (r : Int) : Nat → List Int
  | 0 => List.replicate c.cells.length 0
  | k + 1 => if exC c ps r k = true then addAt (extra c ps r k) (plc ps k).sby ((ten c k).load - (ten c k).shadow) else extra c ps r k
theorem extra_len (c : Conf) (ps : List Plc) (r : Int) : ∀ k, (extra c ps r k).length = c.cells.length
  | 0 => by simp [extra]
  | k + 1 => by simp only [extra]; split <;> simp [addAt_len, extra_len c ps r k]
theorem extra_bd {c : Conf} (hc : ConfOk c) (ps : List Plc) (r : Int) : ∀ k : Nat, k ≤ c.tens.length → ∀ j : Nat, 0 ≤ (extra c ps r k).getD j 0 ∧ (extra c ps r k).getD j 0 ≤ 12 * k
  | 0, _, j => by
    have : (List.replicate c.cells.length (0 : Int)).getD j 0 = 0 := by
      rw [List.getD_eq_getElem?_getD, List.getElem?_replicate]; split <;> rfl
    simp only [extra, this]; omega
  | k + 1, hk, j => by
    have h1 := extra_bd hc ps r k (by omega)
    have ht := ten_ok hc (k := k) (by omega)
    have h2 := addAt_bd (i := (plc ps k).sby) (x := (ten c k).load - (ten c k).shadow) (X := 12) h1 ⟨by have := ht.s1; omega, by have := ht.l1; have := ht.s0; omega⟩ j
    have h3 := h1 j
    simp only [extra]
    split <;> (push_cast; omega)
def L97 (p : Prob) (ps : List Plc) (r : Int) (N : Nat) (k : Nat) (w : VSt) : Prop := gt .bad w.E 2 = dI r ∧ gt .bad w.E 3 = .mp 3 1 0 0 ∧ hg w.H 3 = ⟨1, 0, true, [eQ p]⟩ ∧ gt .bad w.E 7 = .ms 15 1 0 p.conf.cells.length p.conf.cells.length ∧ hg w.H 15 = ⟨1, 1, true, (extra p.conf ps r k).map eI⟩ ∧
  gt .bad w.E 24 = .sl ((ps.take N).map eP) ∧ gt .bad w.E 25 = dI (N : Nat) ∧ gt .bad w.E 26 = dI (k : Nat) ∧ k ≤ N
theorem extra_l0 (p : Prob) (hc : ConfOk p.conf) (ps : List Plc) (r : Int) (N : Nat) (hN : N ≤ ps.length) (hN2 : N ≤ p.conf.tens.length) : ∀ k w, L97 p ps r N k w → Ok (R PP shF 0 70 (.loop ir97_l0) w) (fun e w => e = .exit 0 ∧ gt .bad w.E 7 = .ms 15 1 0 p.conf.cells.length p.conf.cells.length ∧ hg w.H 15 = ⟨1, 1, true, (extra p.conf ps r N).map eI⟩) := by
  refine Ok_up N (L97 p ps r N) fun k w hI => ?_
  obtain ⟨E, H⟩ := w
  obtain ⟨e2, e3, h3, e7, h7, e24, e25, e26, hk⟩ := hI
  simp only at e2 e3 h3 e7 h7 e24 e25 e26
  have hn := hc.lens.c
  have ht5 := hc.t1
  have w1 : IntKind.wrap .i64 ((k : Int) + 1) = ((k + 1 : Nat) : Int) := by rw [w64 (by omega) (by omega)]; rfl
  by_cases hlt : k < N
  · have d1 : decide ((k : Int) < (N : Int)) = true := by simp; omega
    have q1b : (k : Int) < (N : Int) ∧ (k : Int) < (ps.length : Int) := by omega
    have q0 : (0 : Int) ≤ (k : Int) := by omega
    have g1 : ps[k]? = some (plc ps k) := getD_at (by omega)
    have g2 : p.conf.tens[k]? = some (ten p.conf k) := getD_at (l := p.conf.tens) (i := k) (d := ⟨0, 0, 0, 0, 0, 0, false⟩) (by omega)
    have q2 : (k : Int) < (p.conf.tens.length : Int) := by omega
    have tk : (List.take N ps)[k]? = some (plc ps k) := by rw [List.getElem?_take, if_pos hlt]; exact g1
    have tl : (k : Int) < ((List.take N ps).length : Int) := by rw [List.length_take]; omega
    have ht := ten_ok hc (k := k) (by omega)
    have l0 := ht.l0
    have l1 := ht.l1
    have s0 := ht.s0
    have s1 := ht.s1
    have B1 := FV_inside p hc.lens (plc ps k).home r
    have B2 := FV_cell p (plc ps k).sby
    have B3 := FV_inside p hc.lens (plc ps k).sby r
    have bd1 := extra_bd hc ps r k (by omega)
    have bl1 := extra_len p.conf ps r k
    have D1 := addAt_def (extra p.conf ps r k) (plc ps k).sby ((ten p.conf k).load - (ten p.conf k).shadow)
    have wt : IntKind.wrap .i64 ((ten p.conf k).load - (ten p.conf k).shadow) = (ten p.conf k).load - (ten p.conf k).shadow := w64 (by omega) (by omega)
    have no : exC p.conf ps r k = false → extra p.conf ps r (k + 1) = extra p.conf ps r k := fun h => by simp only [extra]; rw [if_neg (by rw [h]; simp)]
    cases c1 : insideB p.conf (plc ps k).home r with
    | false =>
      rw [c1] at B1
      have hx := no (by unfold exC; rw [c1]; rfl)
      simp -implicitDefEqProofs only [go_sem, ir97_l0, eQ, eK, e2, e3, h3, e7, h7, e24, e25, e26, d1, w1, q0, q1b, q2, tk, tl, g2, vpS B1 rfl]
      refine .next hlt ⟨?_, ?_, ?_, ?_, ?_, ?_, ?_, ?_, by omega⟩ <;> simp -implicitDefEqProofs only [go_sem, e2, e3, h3, e7, h7, e24, e25, w1, eQ, hx]
    | true =>
      rw [c1] at B1
      cases c2 : (decide (0 ≤ (plc ps k).sby) && decide ((plc ps k).sby < (p.conf.cells.length : Int))) with
      | false =>
        rw [c2] at B2
        have hx := no (by unfold exC; rw [c1, c2]; rfl)
        simp -implicitDefEqProofs only [go_sem, ir97_l0, eQ, eK, e2, e3, h3, e7, h7, e24, e25, e26, d1, w1, q0, q1b, q2, tk, tl, g2, vpS B1 rfl, vpS B2 rfl]
        refine .next hlt ⟨?_, ?_, ?_, ?_, ?_, ?_, ?_, ?_, by omega⟩ <;> simp -implicitDefEqProofs only [go_sem, e2, e3, h3, e7, h7, e24, e25, w1, eQ, hx]
      | true =>
        rw [c2] at B2
        cases c3 : insideB p.conf (plc ps k).sby r with
        | true =>
          rw [c3] at B3
          have hx := no (by unfold exC; rw [c1, c2, c3]; rfl)
          simp -implicitDefEqProofs only [go_sem, ir97_l0, eQ, eK, e2, e3, h3, e7, h7, e24, e25, e26, d1, w1, q0, q1b, q2, tk, tl, g2, vpS B1 rfl, vpS B2 rfl, vpS B3 rfl]
          refine .next hlt ⟨?_, ?_, ?_, ?_, ?_, ?_, ?_, ?_, by omega⟩ <;> simp -implicitDefEqProofs only [go_sem, e2, e3, h3, e7, h7, e24, e25, w1, eQ, hx]
        | false =>
          rw [c3] at B3
          have hx : extra p.conf ps r (k + 1) = addAt (extra p.conf ps r k) (plc ps k).sby ((ten p.conf k).load - (ten p.conf k).shadow) := by simp only [extra]; rw [if_pos (by unfold exC; rw [c1, c2, c3]; rfl)]
          simp only [Bool.and_eq_true, decide_eq_true_eq] at c2
          have f1 := D1.1 (by rw [bl1]; exact c2)
          have g3 := getD_at (l := extra p.conf ps r k) (i := (plc ps k).sby.toNat) (d := 0) (by rw [bl1]; omega)
          have b3 := bd1 (plc ps k).sby.toNat
          have w2 : IntKind.wrap .i64 ((extra p.conf ps r k).getD (plc ps k).sby.toNat 0 + ((ten p.conf k).load - (ten p.conf k).shadow)) = (extra p.conf ps r k).getD (plc ps k).sby.toNat 0 + ((ten p.conf k).load - (ten p.conf k).shadow) := w64 (by omega) (by omega)
          simp -implicitDefEqProofs only [go_sem, ir97_l0, eQ, eK, e2, e3, h3, e7, h7, e24, e25, e26, d1, w1, q0, q1b, q2, tk, tl, g2, vpS B1 rfl, vpS B2 rfl, vpS B3 rfl, c2, bl1, g3, wt, w2, f1]
          refine .next hlt ⟨?_, ?_, ?_, ?_, ?_, ?_, ?_, ?_, by omega⟩ <;> simp -implicitDefEqProofs only [go_sem, e2, e3, h3, e7, e24, e25, w1, eQ, hx]
  · have : k = N := by omega
    subst this
    have d1 : decide ((k : Int) < (k : Int)) = false := by simp
    simp -implicitDefEqProofs only [go_sem, ir97_l0, e25, e26, d1]
    exact .exit ⟨rfl, by simp -implicitDefEqProofs only [go_sem, e7], h7⟩
theorem FVF_Extra (p : Prob) (hc : ConfOk p.conf) (ps : List Plc) (r : Int) (hp : ps.length ≤ 1000000) : FVF PP shF 97 [.agg (eQ p), .sl (ps.map eP), dI r] (dL (extra p.conf ps r (min ps.length p.conf.tens.length))) := by
  refine FVF_ok (F_ok PP97 rfl ⟨by simp [ir97], by simp⟩ ?_)
  have hn := hc.lens.c
  have hc0 : p.conf.cells.length ≠ 0 := by have := hc.c0; have := hc.z0; have := hc.r0; omega
  have ht := hc.t1
  have m1 : (0 : Int) ≤ (p.conf.cells.length : Int) ∧ (p.conf.cells.length : Int) ≤ (p.conf.cells.length : Int) ∧ ((8 : Nat) : Int) * (p.conf.cells.length : Int) ≤ 281474976710656 ∧ (p.conf.cells.length : Int) ≤ 9223372036854775807 := by omega
  have mn : (if (p.conf.tens.length : Int) < (ps.length : Int) then (p.conf.tens.length : Int) else (ps.length : Int)) = ((min ps.length p.conf.tens.length : Nat) : Int) := by split <;> omega
  have hN1 : min ps.length p.conf.tens.length ≤ ps.length := by omega
  have hN2 : min ps.length p.conf.tens.length ≤ p.conf.tens.length := by omega
  generalize min ps.length p.conf.tens.length = N at *
  have m2 : (0 : Int) ≤ (N : Int) ∧ (N : Int) ≤ (ps.length : Int) := by omega
  have m3 : (List.map eP ps).all (fun el => el.length == 2) = true := by simp [List.all_eq_true]
  have htk : List.take N (ps.map eP) = (ps.take N).map eP := List.map_take.symm
  have hln : ((List.take N ps).length : Int) = (N : Int) := by rw [List.length_take]; omega
  simp -implicitDefEqProofs only [go_sem, ir97, eQ, eK, m1, mn, m2, m3, htk, hln]
  refine (extra_l0 p hc ps r N hN1 hN2 0 _ ?_).mono ?_
  · refine ⟨?_, ?_, ?_, ?_, ?_, ?_, ?_, ?_, by omega⟩ <;> simp -implicitDefEqProofs only [go_sem, eQ, extra, List.map_replicate]
  rintro e ⟨E, H⟩ ⟨rfl, e5, h5⟩
  simp only at e5 h5
  have ho : SlB H 15 1 ((extra p.conf ps r N).map eI) (.ms 15 1 0 p.conf.cells.length p.conf.cells.length) := SlB.mk (by simp [extra_len]) hc0 h5
  simp -implicitDefEqProofs only [go_sem, e5, ho.frz (by decide) (closed_eI _), ho.fresh (by decide) (lits_eI _)]
theorem FV_Apart (c : Conf) (hc : ConfOk c) (a b : Int) : FV PP shF 126 [.agg (eK c), dI a, dI b] = some (dB (apartB c a b)) := by
  refine FV_ok (F_ok PP126 rfl ⟨by simp [ir126], by simp⟩ ?_)
  unfold apartB
  by_cases h0 : 0 ≤ regOf c a
  · by_cases h1 : 0 ≤ regOf c b
    · simp -implicitDefEqProofs only [go_sem, ir126, eK, vpS (FV_RegionOf c hc.lens a) rfl, vpS (FV_RegionOf c hc.lens b) rfl, h0, h1]
    · simp -implicitDefEqProofs only [go_sem, ir126, eK, vpS (FV_RegionOf c hc.lens a) rfl, vpS (FV_RegionOf c hc.lens b) rfl, h0, h1]
  · simp -implicitDefEqProofs only [go_sem, ir126, eK, vpS (FV_RegionOf c hc.lens a) rfl, vpS (FV_RegionOf c hc.lens b) rfl, h0]
theorem FV_MayAll (c : Conf) (hc : ConfOk c) (t i : Int) : FV PP shF 55 [.agg (eK c), dI t, dI i] = some (dB (mayB c t i)) := by
  by_cases h : 0 ≤ i ∧ i < c.cells.length
  · exact FV_May c hc t i h.1 h.2
  · refine FV_ok (F_ok PP55 rfl ⟨by simp [ir55], by simp⟩ ?_)
    have hl := hc.t1
    have w : IntKind.wrap .i64 ((c.tens.length : Int) - 1) = (c.tens.length : Int) - 1 := w64 (by omega) (by omega)
    have B := FV_between t 0 ((c.tens.length : Int) - 1)
    have B2 := FV_between (Cp.regOf c i) 0 3
    have hr := regOf_out h
    rw [hr] at B2
    have hm : mayB c t i = false := by unfold mayB has; rw [hr]; simp
    rw [hm]
    have R := FV_RegionOf c hc.lens i
    rw [hr] at R
    cases hb : (decide (0 ≤ t) && decide (t ≤ (c.tens.length : Int) - 1)) with
    | true =>
      rw [hb] at B
      simp -implicitDefEqProofs only [go_sem, ir55, eK, w, vpS R rfl, vpS B rfl, vpS B2 rfl]
    | false =>
      rw [hb] at B
      simp -implicitDefEqProofs only [go_sem, ir55, eK, w, vpS R rfl, vpS B rfl]
theorem lit1_closed {el : List DV} (h : el.all lit1 = true) : closedL el = true := by
  rw [closedL_iff]
  intro d hd
  have := List.all_eq_true.1 h d hd
  cases d with
  | lit v => cases v <;> simp_all [lit1, closedD]
  | _ => simp [lit1] at this
theorem lits_closed {L : List (List DV)} (h : L.all (fun el => el.all lit1) = true) : L.all closedL = true := by
  rw [List.all_eq_true] at h ⊢
  exact fun el hel => lit1_closed (h el hel)
/-- A call whose list is the caller's to write. -/
theorem vpU {g : Nat} {args : List DV} {e : Nat} {L : List (List DV)} (h : OkF (F PP shF g args [] 0) (fun d H => ∃ b, SlB H b e L d)) (hl : L.all (fun el => el.all lit1) = true) (base dst : Nat) (cl : Bool) (H : VHeap) :
    vpure PP shF base (some dst) g cl false H args = some (if L = [] then (.lit (.slice none 0 0), none) else (.ms (base + dst) ((hg H (base + dst)).ver + 1) 0 L.length L.length, some (hs H (base + dst) ⟨(hg H (base + dst)).ver + 1, e, true, L⟩))) := by
  obtain ⟨d, H1, h1, b, h2⟩ := h
  have hcl := lits_closed hl
  unfold vpure
  rw [h1]
  simp only [Option.bind_some, Option.map_some]
  rcases h2 with ⟨rfl, rfl⟩ | ⟨hne, ver, rfl, hb⟩
  · simp [vback, litD, lit2, lit1, nilD]
  · rw [if_neg hne]
    unfold vback
    rw [if_neg (by simp)]
    simp only [hb]
    rw [if_pos (by simp [hcl, hl])]
    simp [newB]
/-- What DeleteFunc makes of a list so far. -/
structure Del (l m : List Int) (q : Int → Bool) (i j : Nat) : Prop where
  len : m.length = l.length
  tk : m.take i = (l.take j).filter q
  dr : m.drop j = l.drop j
  il : i = ((l.take j).filter q).length
  ij : i < j
theorem Del.set {l m : List Int} {q : Int → Bool} {i j : Nat} (h : Del l m q i j) (hj : j < l.length) (hq : q (l.getD j 0) = true) : Del l (m.set i (l.getD j 0)) q (i + 1) (j + 1) := by
  have hij := h.ij
  have hml := h.len
  have e : l.take (j + 1) = l.take j ++ [l.getD j 0] := by rw [List.take_add_one, getD_at (l := l) (i := j) (d := 0) hj]; rfl
  have ef : (l.take (j + 1)).filter q = (l.take j).filter q ++ [l.getD j 0] := by rw [e, List.filter_append, List.filter_cons, if_pos hq, List.filter_nil]
  refine ⟨by simp [hml], ?_, ?_, ?_, by omega⟩
  · rw [ef, ← h.tk, List.take_add_one, List.getElem?_set_self (by omega)]
    rw [List.take_set_of_le (Nat.le_refl _)]
    rfl
  · have := congrArg (List.drop 1) h.dr
    rw [List.drop_drop, List.drop_drop] at this
    rw [List.drop_set_of_lt (by omega)]
    exact this
  · rw [ef, List.length_append, ← h.il]; rfl
/-- A list that lies in one of some blocks, or nowhere. -/
def SlO (H : VHeap) (S : Nat → Prop) (e : Nat) (L : List (List DV)) (v : DV) : Prop := ∃ b, S b ∧ SlB H b e L v
theorem SlO.keep {H H' : VHeap} {S : Nat → Prop} {e : Nat} {L : List (List DV)} {v : DV} (h : SlO H S e L v) (hb : ∀ b, S b → hg H' b = hg H b) : SlO H' S e L v := by
  obtain ⟨b, h1, h2⟩ := h
  exact ⟨b, h1, h2.keep (hb b h1)⟩
theorem SlO.hs {H : VHeap} {S : Nat → Prop} {e d : Nat} {x : VB} {L : List (List DV)} {v : DV} (h : SlO H S e L v) (hd : ¬ S d) : SlO (Cp.hs H d x) S e L v :=
  h.keep fun b hb => by rw [hg_hs, if_neg (fun e => hd (by rw [e]; exact hb))]
theorem SlO.nil {H : VHeap} {S : Nat → Prop} {e b : Nat} (h : S b) : SlO H S e [] (.lit (.slice none 0 0)) := ⟨b, h, SlB.nil⟩
theorem SlO.frz {H : VHeap} {S : Nat → Prop} {e : Nat} {L : List (List DV)} {v : DV} (h : SlO H S e L v) (he : e ≠ 0) (hc : L.all closedL = true) (n : Nat) : frzD H (n + 1) v = some (.sl L) := by
  obtain ⟨b, _, h⟩ := h; exact h.frz he hc n
theorem SlO.fresh {H : VHeap} {S : Nat → Prop} {e : Nat} {L : List (List DV)} {v : DV} (h : SlO H S e L v) (he : e ≠ 0) (hc : L.all (fun el => el.all lit1) = true) (n : Nat) : freshD H (n + 2) v = true := by
  obtain ⟨b, _, h⟩ := h; exact h.fresh he hc n
/-- The heap that a call leaves. -/
noncomputable def FH (g : Nat) (args : List DV) (H : VHeap) (b : Nat) : VHeap := ((F PP shF g args H b).getD (.bad, [])).2
theorem FH_eq {g : Nat} {args : List DV} {H : VHeap} {b : Nat} {d : DV} {Q : VHeap → Prop} (h : OkF (F PP shF g args H b) (fun d' H' => d' = d ∧ Q H')) : F PP shF g args H b = some (d, FH g args H b) ∧ Q (FH g args H b) := by
  obtain ⟨d', H', h1, rfl, h2⟩ := h
  unfold FH
  rw [h1]
  exact ⟨rfl, h2⟩
theorem SlB_hs {H : VHeap} {b' b e : Nat} {x : VB} {L : List (List DV)} {v : DV} (h : b' ≠ b) : SlB (hs H b' x) b e L v = SlB H b e L v := by
  unfold SlB
  rw [hg_hs, if_neg h]
/-- A broken rule. -/
structure Brk where
  rule : Int
  tenant : Int
  other : Int
  cell : Int
  region : Int
  deriving DecidableEq
abbrev eB (x : Brk) : List DV := [dI x.rule, dI x.tenant, dI x.other, dI x.cell, dI x.region]
/-- A finder's fields. -/
abbrev fdr (p : Prob) (ps : List Plc) (ov : DV) : List DV := [dI p.conf.regions, .sl (p.conf.zones.map eI), .sl (p.conf.cells.map eC), .sl (p.conf.tens.map eT), .sl (p.conf.vers.map eV), .sl (p.conf.reps.map eI), .sl (p.conf.obs.map eI), dI p.conf.blast, dI p.conf.lease, dI p.conf.bake, dI p.cells, dB p.head, .sl (ps.map eP), ov]
theorem lits_eB (l : List Brk) : (l.map eB).all (fun el => el.all lit1) = true := by simp [List.all_eq_true, lit1]
theorem closed_eB (l : List Brk) : (l.map eB).all closedL = true := by simp [List.all_eq_true, closedL, closedD]
theorem vev_plain (E : List DV) : vev E (.c (.agg #[.int .i64 0, .int .i64 (-1), .int .i64 (-1), .int .i64 (-1), .int .i64 (-1)])) = .agg [dI 0, dI (-1), dI (-1), dI (-1), dI (-1)] := rfl
@[go_sem] theorem self_ne (b k : Nat) : (b = b + (k + 1)) = False := by simp
@[go_sem] theorem self_ne' (b k : Nat) : (b + (k + 1) = b) = False := by simp
theorem add_ok (p : Prob) (ps : List Plc) (B : List Brk) (bf vf bo : Nat) (ov : DV) (rule : Int) (gs : Nat) (caps : List DV) (x : Brk) (hsg : shF gs = true) (H : VHeap) (b : Nat) (hf : hg H bf = ⟨vf, 0, true, [fdr p ps ov]⟩) (ho : SlB H bo 5 (B.map eB) ov) (hbo : bo ≠ bf) (hb : H.length ≤ b) (hbf : bf < b) (hbob : bo < b) (hB : B.length ≤ 100000)
    (hset : ∀ b', max H.length (b + 6 + 1) ≤ b' → F PP shF gs (.mp (b + 6) ((hg H (b + 6)).ver + 1) 0 0 :: caps) (hs H (b + 6) ⟨(hg H (b + 6)).ver + 1, 0, true, [eB ⟨rule, -1, -1, -1, -1⟩]⟩) b' = some (.tup [], hs H (b + 6) ⟨(hg H (b + 6)).ver + 1, 0, true, [eB x]⟩)) :
    OkF (F PP shF 110 [.mp bf vf 0 0, dI rule, .fn gs caps] H b) (fun d H' => d = .tup [] ∧ ∃ ov', hg H' bf = ⟨vf, 0, true, [fdr p ps ov']⟩ ∧ SlB H' (b + 19) 5 ((B ++ [x]).map eB) ov' ∧ (∀ c, c < b → c ≠ bf → c ≠ bo → hg H' c = hg H c) ∧ b + 20 ≤ H'.length) := by
  refine F_ok PP110 rfl ⟨by simp [ir110], by simpa using hb⟩ ?_
  have n1 : ¬ b + 6 = bf := by omega
  have n2 : ¬ b + 18 = bf := by omega
  have n3 : ¬ b + 19 = bf := by omega
  have n4 : ¬ b + 6 = b + 18 := by omega
  have n5 : ¬ b + 18 = b + 6 := by omega
  have n6 : ¬ b + 19 = b + 18 := by omega
  have n7 : ¬ b + 18 = bo := by omega
  have n8 : ¬ b + 6 = bo := by omega
  have n9 : ¬ bo = b + 19 := by omega
  have n10 : ¬ bf = b + 19 := by omega
  have n11 : ¬ bf = b + 18 := by omega
  have n12 : ¬ bf = b + 6 := by omega
  have n13 : ¬ bf = bo := by omega
  have n14 : ¬ bo = b + 18 := by omega
  have n15 : ¬ bo = b + 6 := by omega
  rcases ho with ⟨hz, rfl⟩ | ⟨hz, vo, rfl, hbk⟩
  · simp -implicitDefEqProofs only [go_sem, ir110, hf, n1, n2, n3, n4, n5, n6, n7, n8, n9, vcall_sh hsg, hs_hs, vev_plain, hset, self_ne, self_ne']
    have hB0 : B = [] := by simpa using hz
    subst hB0
    refine ⟨_, rfl, SlB.mk (ver := (hg H (b + 19)).ver + 1) ?_ ?_ ?_, ?_, ?_⟩
    · simp
    · simp
    · simp -implicitDefEqProofs only [go_sem, n10]
    · intro c c1 c2 c3
      have m1 : ¬ bf = c := by omega
      have m2 : ¬ b + 19 = c := by omega
      have m3 : ¬ b + 18 = c := by omega
      have m4 : ¬ b + 6 = c := by omega
      simp -implicitDefEqProofs only [go_sem, m1, m2, m3, m4]
    · (try simp -implicitDefEqProofs only [go_sem, ])
      omega
  · have c1 : ¬ (B.map eB).length + 1 ≤ (B.map eB).length := by omega
    have hl : (B.map eB).length = B.length := by simp
    have c2 : (B.length + 1) * 40 ≤ 140737488355328 ∧ B.length ≤ 9223372036854775806 := by omega
    have c3 : ¬ B.length + 1 ≤ B.length := by omega
    have tk : List.take B.length (B.map eB) = B.map eB := List.take_of_length_le (by simp)
    simp -implicitDefEqProofs only [go_sem, ir110, hf, hbk, n1, n2, n3, n4, n5, n6, n7, n8, n9, vcall_sh hsg, hs_hs, vev_plain, hset, self_ne, self_ne', hbo, n14, n15, hl, c1, c2, c3, tk]
    refine ⟨_, rfl, SlB.mk (ver := (hg H (b + 19)).ver + 1) ?_ ?_ ?_, ?_, ?_⟩
    · simp
    · simp
    · simp -implicitDefEqProofs only [go_sem, n10]
      simp
    · intro c c1 c2 c3
      have m1 : ¬ bf = c := by omega
      have m2 : ¬ b + 19 = c := by omega
      have m3 : ¬ b + 18 = c := by omega
      have m4 : ¬ b + 6 = c := by omega
      have m5 : ¬ bo = c := by omega
      simp -implicitDefEqProofs only [go_sem, m1, m2, m3, m4, m5]
    · (try simp -implicitDefEqProofs only [go_sem, ])
      omega
/-- What a function of a finder's sets of a broken rule. -/
def SetOk (gs : Nat) (caps : List DV) (H : VHeap) (lo : Nat) (rule : Int) (x : Brk) : Prop :=
  ∀ (H' : VHeap) (bb vb b' : Nat), (∀ c, c < lo → hg H' c = hg H c) → lo ≤ bb → hg H' bb = ⟨vb, 0, true, [eB ⟨rule, -1, -1, -1, -1⟩]⟩ → H'.length ≤ b' → F PP shF gs (.mp bb vb 0 0 :: caps) H' b' = some (.tup [], hs H' bb ⟨vb, 0, true, [eB x]⟩)
theorem set_one (H : VHeap) (lo : Nat) (rule i n : Int) (b1 v1 b2 v2 : Nat) (h1 : hg H b1 = ⟨v1, 0, true, [[dI i]]⟩) (h2 : hg H b2 = ⟨v2, 0, true, [[dI n]]⟩) (l1 : b1 < lo) (l2 : b2 < lo) : SetOk 125 [.mp b1 v1 0 0, .mp b2 v2 0 0] H lo rule ⟨rule, i, -1, n, -1⟩ := by
  intro H' bb vb b' hfr hbb hb hb'
  rw [← hfr b1 l1] at h1
  rw [← hfr b2 l2] at h2
  have n1 : ¬ bb = b1 := by omega
  have n2 : ¬ bb = b2 := by omega
  have n3 : ¬ b1 = bb := by omega
  have n4 : ¬ b2 = bb := by omega
  have q2 : (b2 == bb) = false := beq_false_of_ne n4
  rw [F_fun PP125 rfl ⟨by simp [ir125], by simpa using hb'⟩]
  simp -implicitDefEqProofs only [go_sem, ir125, h1, h2, hb, n1, n2, n3, n4, hs_hs, q2]
theorem set_127 (H : VHeap) (lo : Nat) (rule i h n : Int) (b1 v1 b2 v2 : Nat) (h1 : hg H b1 = ⟨v1, 0, true, [[dI i]]⟩) (h2 : hg H b2 = ⟨v2, 0, true, [[dI h, dI n]]⟩) (l1 : b1 < lo) (l2 : b2 < lo) : SetOk 127 [.mp b1 v1 0 0, .mp b2 v2 0 0] H lo rule ⟨rule, i, -1, n, -1⟩ := by
  intro H' bb vb b' hfr hbb hb hb'
  rw [← hfr b1 l1] at h1
  rw [← hfr b2 l2] at h2
  have n1 : ¬ bb = b1 := by omega
  have n2 : ¬ bb = b2 := by omega
  have n3 : ¬ b1 = bb := by omega
  have n4 : ¬ b2 = bb := by omega
  have q2 : (b2 == bb) = false := beq_false_of_ne n4
  rw [F_fun PP127 rfl ⟨by simp [ir127], by simpa using hb'⟩]
  simp -implicitDefEqProofs only [go_sem, ir127, h1, h2, hb, n1, n2, n3, n4, hs_hs, q2]
theorem set_129 (H : VHeap) (lo : Nat) (rule i : Int) (b1 v1 : Nat) (h1 : hg H b1 = ⟨v1, 0, true, [[dI i]]⟩) (l1 : b1 < lo) : SetOk 129 [.mp b1 v1 0 0] H lo rule ⟨rule, -1, -1, i, -1⟩ := by
  intro H' bb vb b' hfr hbb hb hb'
  rw [← hfr b1 l1] at h1
  have n1 : ¬ bb = b1 := by omega
  rw [F_fun PP129 rfl ⟨by simp [ir129], by simpa using hb'⟩]
  simp -implicitDefEqProofs only [go_sem, ir129, h1, hb, n1, hs_hs]
theorem set_130 (H : VHeap) (lo : Nat) (rule r n : Int) (b1 v1 b2 v2 : Nat) (h1 : hg H b1 = ⟨v1, 0, true, [[dI r]]⟩) (h2 : hg H b2 = ⟨v2, 0, true, [[dI n]]⟩) (l1 : b1 < lo) (l2 : b2 < lo) : SetOk 130 [.mp b1 v1 0 0, .mp b2 v2 0 0] H lo rule ⟨rule, -1, -1, n, r⟩ := by
  intro H' bb vb b' hfr hbb hb hb'
  rw [← hfr b1 l1] at h1
  rw [← hfr b2 l2] at h2
  have n1 : ¬ bb = b1 := by omega
  have n2 : ¬ bb = b2 := by omega
  have n3 : ¬ b1 = bb := by omega
  have n4 : ¬ b2 = bb := by omega
  have q2 : (b2 == bb) = false := beq_false_of_ne n4
  rw [F_fun PP130 rfl ⟨by simp [ir130], by simpa using hb'⟩]
  simp -implicitDefEqProofs only [go_sem, ir130, h1, h2, hb, n1, n2, n3, n4, hs_hs, q2]
theorem set_128 (H : VHeap) (lo : Nat) (rule i : Int) (k : Nat) (p : Prob) (ps : List Plc) (ov : DV) (b1 v1 b2 v2 b3 v3 bf vf : Nat) (h1 : hg H b1 = ⟨v1, 0, true, [[dI i]]⟩) (h2 : hg H b2 = ⟨v2, 0, true, [[dI (k : Nat)]]⟩) (h3 : hg H b3 = ⟨v3, 0, true, [[.mp bf vf 0 0]]⟩) (hf : hg H bf = ⟨vf, 0, true, [fdr p ps ov]⟩)
    (l1 : b1 < lo) (l2 : b2 < lo) (l3 : b3 < lo) (l4 : bf < lo) (k1 : k < ps.length) : SetOk 128 [.mp b1 v1 0 0, .mp b2 v2 0 0, .mp b3 v3 0 0] H lo rule ⟨rule, i, k, (plc ps k).home, -1⟩ := by
  intro H' bb vb b' hfr hbb hb hb'
  rw [← hfr b1 l1] at h1
  rw [← hfr b2 l2] at h2
  rw [← hfr b3 l3] at h3
  rw [← hfr bf l4] at hf
  have n1 : ¬ bb = b1 := by omega
  have n2 : ¬ bb = b2 := by omega
  have n3 : ¬ b1 = bb := by omega
  have n4 : ¬ b2 = bb := by omega
  have n5 : ¬ bb = b3 := by omega
  have n6 : ¬ b3 = bb := by omega
  have n7 : ¬ bb = bf := by omega
  have n8 : ¬ bf = bb := by omega
  have g : ps[k]? = some (plc ps k) := getD_at k1
  have k0 : (0 : Int) ≤ (k : Int) := by omega
  have k1' : (k : Int) < (ps.length : Int) := by omega
  have q2 : (b2 == bb) = false := beq_false_of_ne n4
  have q3 : (b3 == bb) = false := beq_false_of_ne n6
  have q4 : (bf == bb) = false := beq_false_of_ne n8
  rw [F_fun PP128 rfl ⟨by simp [ir128], by simpa using hb'⟩]
  simp -implicitDefEqProofs only [go_sem, ir128, h1, h2, h3, hf, hb, n1, n2, n3, n4, n5, n6, n7, n8, hs_hs, k0, k1', g, q2, q3, q4]
/-- A finder in the heap of a function whose own blocks are b, b + 1, .. -/
structure FndS (H0 : VHeap) (bf vf bo0 : Nat) (p : Prob) (ps : List Plc) (b nt : Nat) (B : List Brk) (H : VHeap) : Prop where
  ex : ∃ bo ov, hg H bf = ⟨vf, 0, true, [fdr p ps ov]⟩ ∧ SlB H bo 5 (B.map eB) ov ∧ bo ≠ bf ∧ (bo < b ∨ b + nt ≤ bo) ∧ bo < max H.length (b + nt) ∧ (bo < b → bo = bo0)
  fr : ∀ c, c < b → c ≠ bf → c ≠ bo0 → hg H c = hg H0 c
  bfb : bf < b
  len : H0.length ≤ H.length
theorem FndS.own {H0 : VHeap} {bf vf bo0 : Nat} {p : Prob} {ps : List Plc} {b nt : Nat} {B : List Brk} {H : VHeap} (h : FndS H0 bf vf bo0 p ps b nt B H) {d : Nat} {x : VB} (h1 : b ≤ d) (h2 : d < b + nt) : FndS H0 bf vf bo0 p ps b nt B (hs H d x) := by
  obtain ⟨⟨bo, ov, a1, a2, a3, a4, a5, a6⟩, f, g, hl⟩ := h
  refine ⟨⟨bo, ov, ?_, ?_, a3, a4, ?_, a6⟩, fun c c1 c2 c3 => ?_, g, by rw [hs_len]; omega⟩
  · rw [hg_hs, if_neg (by omega)]; exact a1
  · rw [SlB_hs (by omega)]; exact a2
  · rw [hs_len]; omega
  · rw [hg_hs, if_neg (by omega)]; exact f c c1 c2 c3
/-- add, as one who holds a finder sees it. -/
theorem FndS.add {H0 : VHeap} {bf vf bo0 : Nat} {p : Prob} {ps : List Plc} {b nt : Nat} {B : List Brk} {H : VHeap} (h : FndS H0 bf vf bo0 p ps b nt B H) {rule : Int} {gs : Nat} {caps : List DV} {x : Brk} (hsg : shF gs = true) (hB : B.length ≤ 100000) {b1 : Nat} (hb1 : H.length ≤ b1) (hb2 : b + nt ≤ b1)
    (hset : SetOk gs caps H b1 rule x) : F PP shF 110 [.mp bf vf 0 0, dI rule, .fn gs caps] H b1 = some (.tup [], FH 110 [.mp bf vf 0 0, dI rule, .fn gs caps] H b1) ∧ FndS H0 bf vf bo0 p ps b nt (B ++ [x]) (FH 110 [.mp bf vf 0 0, dI rule, .fn gs caps] H b1) ∧
      ∀ d, b ≤ d → d < b + nt → hg (FH 110 [.mp bf vf 0 0, dI rule, .fn gs caps] H b1) d = hg H d := by
  obtain ⟨⟨bo, ov, a1, a2, a3, a4, a5, a6⟩, f, g, hl⟩ := h
  have A := add_ok p ps B bf vf bo ov rule gs caps x hsg H b1 a1 a2 a3 hb1 (by omega) (by omega) hB (fun b' hb' => by
    have := hset (hs H (b1 + 6) ⟨(hg H (b1 + 6)).ver + 1, 0, true, [eB ⟨rule, -1, -1, -1, -1⟩]⟩) (b1 + 6) ((hg H (b1 + 6)).ver + 1) b' (fun c hc => by rw [hg_hs, if_neg (by omega)]) (by omega) (by rw [hg_hs, if_pos rfl]) (by rw [hs_len]; exact hb')
    rw [this, hs_hs])
  obtain ⟨e1, ov', e2, e3, e4, e5⟩ := FH_eq A
  refine ⟨e1, ⟨⟨b1 + 19, ov', e2, e3, by omega, by omega, by omega, by omega⟩, fun c c1 c2 c3 => ?_, g, by omega⟩, fun d d1 d2 => ?_⟩
  · rw [e4 c (by omega) c2 (by rcases a4 with a4 | a4 <;> omega)]
    exact f c c1 c2 c3
  · exact e4 d (by omega) (by omega) (by omega)
def oneX (rule : Int) (holds : Int → Int → Bool) (i n : Int) : List Brk := if n ≠ -1 ∧ holds i n = false then [⟨rule, i, -1, n, -1⟩] else []
def two2 (x : Plc) (k : Nat) : Int := if k = 0 then x.home else x.sby
def oneK (rule : Int) (holds : Int → Int → Bool) (i : Int) (x : Plc) : Nat → List Brk
  | 0 => []
  | k + 1 => oneK rule holds i x k ++ oneX rule holds i (two2 x k)
def oneL (rule : Int) (holds : Int → Int → Bool) (ps : List Plc) : Nat → List Brk
  | 0 => []
  | i + 1 => oneL rule holds ps i ++ oneK rule holds (i : Nat) (plc ps i) 2
theorem oneX_len (rule : Int) (holds : Int → Int → Bool) (i n : Int) : (oneX rule holds i n).length ≤ 1 := by unfold oneX; split <;> simp
theorem oneK_len (rule : Int) (holds : Int → Int → Bool) (i : Int) (x : Plc) : ∀ k, (oneK rule holds i x k).length ≤ k
  | 0 => by simp [oneK]
  | k + 1 => by simp only [oneK, List.length_append]; have := oneK_len rule holds i x k; have := oneX_len rule holds i (two2 x k); omega
theorem oneL_len (rule : Int) (holds : Int → Int → Bool) (ps : List Plc) : ∀ k, (oneL rule holds ps k).length ≤ 2 * k
  | 0 => by simp [oneL]
  | k + 1 => by simp only [oneL, List.length_append]; have := oneL_len rule holds ps k; have := oneK_len rule holds (k : Nat) (plc ps k) 2; omega
/-- What a check of a finder's answers, whatever was found before. -/
def ChkOk (g : Nat) (caps : List DV) (H0 : VHeap) (bf vf bo0 : Nat) (p : Prob) (ps : List Plc) (b : Nat) (holds : Int → Int → Bool) (dom : Int → Int → Prop) : Prop :=
  ∀ (H : VHeap) (nt : Nat) (B : List Brk), FndS H0 bf vf bo0 p ps b nt B H → ∃ fc, mapO (frzD H 6) caps = some fc ∧ ∀ i n, dom i n → FV PP shF g (dI i :: dI n :: fc) = some (dB (holds i n))
def L116i (H0 : VHeap) (bf vf bo0 : Nat) (p : Prob) (ps : List Plc) (b : Nat) (B : List Brk) (rule : Int) (g : Nat) (caps : List DV) (holds : Int → Int → Bool) (i : Nat) (k : Nat) (w : VSt) : Prop :=
  ∃ v6 : Nat, gt .bad w.E 0 = .mp bf vf 0 0 ∧ gt .bad w.E 1 = dI rule ∧ gt .bad w.E 2 = .fn g caps ∧ gt .bad w.E 6 = .mp (b + 6) v6 0 0 ∧ hg w.H (b + 6) = ⟨v6, 0, true, [[dI (i : Nat)]]⟩ ∧ gt .bad w.E 13 = .sl (ps.map eP) ∧ gt .bad w.E 14 = dI (ps.length : Nat) ∧ gt .bad w.E 15 = dI (i : Nat) ∧
    gt .bad w.E 24 = .agg [dI (plc ps i).home, dI (plc ps i).sby] ∧ gt .bad w.E 25 = dI (k : Nat) ∧ FndS H0 bf vf bo0 p ps b 43 (B ++ oneK rule holds (i : Nat) (plc ps i) k) w.H ∧ k ≤ 2
theorem one_l0 (H0 : VHeap) (bf vf bo0 : Nat) (p : Prob) (ps : List Plc) (b : Nat) (B : List Brk) (rule : Int) (g : Nat) (caps : List DV) (holds : Int → Int → Bool) (dom : Int → Int → Prop) (hsg : shF g = false) (hc : ChkOk g caps H0 bf vf bo0 p ps b holds dom) (hB : B.length ≤ 10000) (i : Nat) (hi : i < ps.length)
    (hd : ∀ k, two2 (plc ps i) k ≠ -1 → dom (i : Nat) (two2 (plc ps i) k)) : ∀ k w, L116i H0 bf vf bo0 p ps b B rule g caps holds i k w → Ok (R PP shF b 43 (.loop ir116_l0) w) (fun e w => e = .exit 2 ∧ L116i H0 bf vf bo0 p ps b B rule g caps holds i 2 w) := by
  refine Ok_up 2 _ fun k w hI => ?_
  obtain ⟨E, H⟩ := w
  obtain ⟨v6, e0, e1, e2, e6, h6, e13, e14, e15, e24, e25, hF, hk⟩ := hI
  simp only at e0 e1 e2 e6 h6 e13 e14 e15 e24 e25 hF
  have w1 : IntKind.wrap .i64 ((k : Int) + 1) = ((k + 1 : Nat) : Int) := by rw [w64 (by omega) (by omega)]; rfl
  by_cases hlt : k < 2
  · have d1 : decide ((k : Int) < 2) = true := by simp; omega
    have q0 : (0 : Int) ≤ (k : Int) := by omega
    have q1 : (k : Int) < ((2 : Nat) : Int) := by omega
    have q1' : (k : Int) < 2 := by omega
    have gk : ([dI (plc ps i).home, dI (plc ps i).sby] : List DV)[k]? = some (dI (two2 (plc ps i) k)) := by
      obtain rfl | rfl : k = 0 ∨ k = 1 := by omega
      · rfl
      · rfl
    have hK : oneK rule holds (i : Nat) (plc ps i) (k + 1) = oneK rule holds (i : Nat) (plc ps i) k ++ oneX rule holds (i : Nat) (two2 (plc ps i) k) := rfl
    have hl := oneK_len rule holds (i : Nat) (plc ps i) k
    have hdk := hd k
    generalize two2 (plc ps i) k = n at *
    have hF9 : FndS H0 bf vf bo0 p ps b 43 (B ++ oneK rule holds (i : Nat) (plc ps i) k) (hs H (b + 9) ⟨(hg H (b + 9)).ver + 1, 0, true, [[dI n]]⟩) := hF.own (by omega) (by omega)
    by_cases hn : n = -1
    · have z0 : (n != -1) = false := by simp [hn]
      have hx : oneX rule holds (i : Nat) n = [] := by unfold oneX; rw [if_neg (by simp [hn])]
      rw [hx, List.append_nil] at hK
      simp -implicitDefEqProofs only [go_sem, ir116_l0, e0, e1, e2, e6, h6, e13, e14, e15, e24, e25, d1, q0, q1, q1', gk, w1, hs_hs, z0]
      refine .next hlt ⟨v6, ?_, ?_, ?_, ?_, ?_, ?_, ?_, ?_, ?_, ?_, ?_, by omega⟩ <;> (try simp -implicitDefEqProofs only [go_sem, e0, e1, e2, e6, h6, e13, e14, e15, e24, w1])
      rw [hK]; exact hF9
    · have z0 : (n != -1) = true := by simp [hn]
      obtain ⟨fc, hfc, hv⟩ := hc _ _ _ hF9
      have B1 := hv i n (hdk hn)
      cases hh : holds i n with
      | true =>
        rw [hh] at B1
        have hx : oneX rule holds (i : Nat) n = [] := by unfold oneX; rw [if_neg (by simp [hh])]
        rw [hx, List.append_nil] at hK
        simp -implicitDefEqProofs only [go_sem, ir116_l0, e0, e1, e2, e6, h6, e13, e14, e15, e24, e25, d1, q0, q1, q1', gk, w1, hs_hs, z0, vcall_pure hsg, hfc, vpS B1 rfl]
        refine .next hlt ⟨v6, ?_, ?_, ?_, ?_, ?_, ?_, ?_, ?_, ?_, ?_, ?_, by omega⟩ <;> (try simp -implicitDefEqProofs only [go_sem, e0, e1, e2, e6, h6, e13, e14, e15, e24, w1])
        rw [hK]; exact hF9
      | false =>
        rw [hh] at B1
        have hx : oneX rule holds (i : Nat) n = [⟨rule, i, -1, n, -1⟩] := by unfold oneX; rw [if_pos ⟨hn, hh⟩]
        rw [hx] at hK
        have A := fun b1 hb1 hb2 => hF9.add (rule := rule) (gs := 125) (caps := [.mp (b + 6) v6 0 0, .mp (b + 9) ((hg H (b + 9)).ver + 1) 0 0]) (x := ⟨rule, i, -1, n, -1⟩) rfl (by simp; omega) (b1 := b1) hb1 hb2 (set_one _ _ _ _ _ _ _ _ _ (by rw [hg_hs, if_neg (by omega)]; exact h6) (by rw [hg_hs, if_pos rfl]) (by omega) (by omega))
        have A1 := fun b1 hb1 hb2 => (A b1 hb1 hb2).1
        simp -implicitDefEqProofs only [go_sem, ir116_l0, e0, e1, e2, e6, h6, e13, e14, e15, e24, e25, d1, q0, q1, q1', gk, w1, hs_hs, z0, vcall_pure hsg, hfc, vpS B1 rfl, A1]
        obtain ⟨_, hF', hfr⟩ := A (max (max (List.length H) (b + 9 + 1)) (b + 43)) (by rw [hs_len]; omega) (by omega)
        have h6' := hfr (b + 6) (by omega) (by omega)
        rw [hg_hs, if_neg (by omega), h6] at h6'
        generalize FH 110 _ _ _ = H' at hF' h6' ⊢
        refine .next hlt ⟨v6, ?_, ?_, ?_, ?_, h6', ?_, ?_, ?_, ?_, ?_, ?_, by omega⟩ <;> (try simp -implicitDefEqProofs only [go_sem, e0, e1, e2, e6, e13, e14, e15, e24, w1])
        rw [hK, ← List.append_assoc]; exact hF'
  · have hk2 : k = 2 := by omega
    have d1 : decide ((k : Int) < 2) = false := by simp; omega
    simp -implicitDefEqProofs only [go_sem, ir116_l0, e25, d1]
    subst hk2
    refine .exit ⟨rfl, v6, ?_, ?_, ?_, ?_, h6, ?_, ?_, ?_, ?_, ?_, hF, by omega⟩ <;> simp -implicitDefEqProofs only [go_sem, e0, e1, e2, e6, e13, e14, e15, e24, e25]
def L116 (H0 : VHeap) (bf vf bo0 : Nat) (p : Prob) (ps : List Plc) (b : Nat) (B : List Brk) (rule : Int) (g : Nat) (caps : List DV) (holds : Int → Int → Bool) (i : Nat) (w : VSt) : Prop :=
  gt .bad w.E 0 = .mp bf vf 0 0 ∧ gt .bad w.E 1 = dI rule ∧ gt .bad w.E 2 = .fn g caps ∧ gt .bad w.E 13 = .sl (ps.map eP) ∧ gt .bad w.E 14 = dI (ps.length : Nat) ∧ gt .bad w.E 15 = dI (i : Nat) ∧ FndS H0 bf vf bo0 p ps b 43 (B ++ oneL rule holds ps i) w.H ∧ i ≤ ps.length
theorem one_l1 (H0 : VHeap) (bf vf bo0 : Nat) (p : Prob) (ps : List Plc) (b : Nat) (B : List Brk) (rule : Int) (g : Nat) (caps : List DV) (holds : Int → Int → Bool) (dom : Int → Int → Prop) (hsg : shF g = false) (hc : ChkOk g caps H0 bf vf bo0 p ps b holds dom) (hB : B.length ≤ 1000) (hps : ps.length ≤ 1000)
    (hd : ∀ i : Nat, i < ps.length → ∀ k, two2 (plc ps i) k ≠ -1 → dom (i : Nat) (two2 (plc ps i) k)) : ∀ i w, L116 H0 bf vf bo0 p ps b B rule g caps holds i w → Ok (R PP shF b 43 (.loop ir116_l1) w) (fun e w => e = .exit 0 ∧ FndS H0 bf vf bo0 p ps b 43 (B ++ oneL rule holds ps ps.length) w.H) := by
  refine Ok_up ps.length _ fun i w hI => ?_
  obtain ⟨E, H⟩ := w
  obtain ⟨e0, e1, e2, e13, e14, e15, hF, hk⟩ := hI
  simp only at e0 e1 e2 e13 e14 e15 hF
  have w1 : IntKind.wrap .i64 ((i : Int) + 1) = ((i + 1 : Nat) : Int) := by rw [w64 (by omega) (by omega)]; rfl
  by_cases hlt : i < ps.length
  · have d1 : decide ((i : Int) < (ps.length : Int)) = true := by simp; omega
    have q0 : (0 : Int) ≤ (i : Int) := by omega
    have q1 : (i : Int) < (ps.length : Int) := by omega
    have g1 : ps[i]? = some (plc ps i) := getD_at hlt
    have hl := oneL_len rule holds ps i
    simp -implicitDefEqProofs only [go_sem, ir116_l1, e0, e1, e2, e13, e14, e15, d1, q0, q1, g1, w1, hs_hs]
    refine (one_l0 H0 bf vf bo0 p ps b (B ++ oneL rule holds ps i) rule g caps holds dom hsg hc (by simp; omega) i hlt (hd i hlt) 0 _ ⟨(hg H (b + 6)).ver + 1, ?_, ?_, ?_, ?_, ?_, ?_, ?_, ?_, ?_, ?_, ?_, by omega⟩).mono ?_ <;> (try simp -implicitDefEqProofs only [go_sem, e0, e1, e2, e13, e14, e15])
    · simp only [oneK, List.append_nil]
      exact (((hF.own (by omega) (by omega)).own (by omega) (by omega)).own (by omega) (by omega)).own (by omega) (by omega)
    · rintro e ⟨E', H'⟩ ⟨rfl, v6, f0, f1, f2, f6, g6, f13, f14, f15, f24, f25, hF', _⟩
      simp only at f0 f1 f2 f6 g6 f13 f14 f15 f24 f25 hF'
      simp -implicitDefEqProofs only [go_sem, f15, w1]
      refine .next hlt ⟨?_, ?_, ?_, ?_, ?_, ?_, ?_, by omega⟩ <;> (try simp -implicitDefEqProofs only [go_sem, f0, f1, f2, f13, f14])
      rw [show oneL rule holds ps (i + 1) = oneL rule holds ps i ++ oneK rule holds (i : Nat) (plc ps i) 2 from rfl, ← List.append_assoc]
      exact hF'
  · have hkl : i = ps.length := by omega
    have d1 : decide ((i : Int) < (ps.length : Int)) = false := by simp; omega
    simp -implicitDefEqProofs only [go_sem, ir116_l1, e14, e15, d1]
    subst hkl
    exact .exit ⟨rfl, hF⟩
/-- What a function on a finder does: it finds more, and touches nothing else. -/
def FndTo (H : VHeap) (bf vf bo0 : Nat) (p : Prob) (ps : List Plc) (b : Nat) (B B' : List Brk) (d : DV) (H' : VHeap) : Prop := d = .tup [] ∧ ∃ bo ov, hg H' bf = ⟨vf, 0, true, [fdr p ps ov]⟩ ∧ SlB H' bo 5 (B'.map eB) ov ∧ bo ≠ bf ∧ (bo < b → bo = bo0) ∧ bo < max H'.length b ∧ H.length ≤ H'.length ∧ ∀ c, c < b → c ≠ bf → c ≠ bo0 → hg H' c = hg H c
theorem FndS.to {H0 : VHeap} {bf vf bo0 : Nat} {p : Prob} {ps : List Plc} {b nt : Nat} {B B' : List Brk} {H : VHeap} (h : FndS H0 bf vf bo0 p ps b nt B' H) : FndTo H0 bf vf bo0 p ps b B B' (.tup []) H := by
  obtain ⟨⟨bo, ov, a1, a2, a3, a4, a5, a6⟩, f, g, hl⟩ := h
  exact ⟨rfl, bo, ov, a1, a2, a3, a6, by omega, hl, f⟩
theorem FndS.start {H : VHeap} {bf vf bo : Nat} {p : Prob} {ps : List Plc} {b nt : Nat} {B : List Brk} {ov : DV} (h1 : hg H bf = ⟨vf, 0, true, [fdr p ps ov]⟩) (h2 : SlB H bo 5 (B.map eB) ov) (h3 : bo ≠ bf) (h4 : bo < b) (h5 : bf < b) : FndS H bf vf bo p ps b nt B H :=
  ⟨⟨bo, ov, h1, h2, h3, .inl h4, by omega, fun _ => rfl⟩, fun c _ _ _ => rfl, h5, Nat.le_refl _⟩
theorem FndS.call {H0 : VHeap} {bf vf bo0 : Nat} {p : Prob} {ps : List Plc} {b nt : Nat} {B B' : List Brk} {H : VHeap} (h : FndS H0 bf vf bo0 p ps b nt B H) {g : Nat} {args : List DV} {b1 : Nat} (hb1 : H.length ≤ b1) (hb2 : b + nt ≤ b1)
    (hk : ∀ bo ov, hg H bf = ⟨vf, 0, true, [fdr p ps ov]⟩ → SlB H bo 5 (B.map eB) ov → bo ≠ bf → bo < b1 → bf < b1 → (bo < b ∨ b + nt ≤ bo) → OkF (F PP shF g args H b1) (FndTo H bf vf bo p ps b1 B B')) :
    F PP shF g args H b1 = some (.tup [], FH g args H b1) ∧ FndS H0 bf vf bo0 p ps b nt B' (FH g args H b1) ∧ ∀ d, b ≤ d → d < b + nt → hg (FH g args H b1) d = hg H d := by
  obtain ⟨⟨bo, ov, a1, a2, a3, a4, a5, a6⟩, f, gb, hl⟩ := h
  have A := FH_eq (hk bo ov a1 a2 a3 (by omega) (by omega) a4)
  obtain ⟨e1, bo', ov', c1, c2, c3, c4, c5, c7, c6⟩ := A
  have hcase : (bo' = bo ∧ bo' < b1) ∨ b1 ≤ bo' := by
    rcases Nat.lt_or_ge bo' b1 with hh | hh
    · exact .inl ⟨c4 hh, hh⟩
    · exact .inr hh
  refine ⟨e1, ⟨⟨bo', ov', c1, c2, c3, ?_, ?_, ?_⟩, fun c d1 d2 d3 => ?_, gb, by omega⟩, fun d d1 d2 => ?_⟩
  · rcases hcase with ⟨hh, _⟩ | hh
    · rw [hh]; exact a4
    · omega
  · rcases hcase with ⟨hh, _⟩ | hh
    · omega
    · omega
  · intro hx
    rcases hcase with ⟨hh, _⟩ | hh
    · rw [hh] at hx ⊢; exact a6 hx
    · omega
  · rw [c6 c (by omega) d2 (by rcases a4 with a4 | a4 <;> omega)]
    exact f c d1 d2 d3
  · exact c6 d (by omega) (by omega) (by omega)
theorem one_ok (p : Prob) (ps : List Plc) (B : List Brk) (rule : Int) (g : Nat) (caps : List DV) (holds : Int → Int → Bool) (dom : Int → Int → Prop) (hsg : shF g = false) (hB : B.length ≤ 1000) (hps : ps.length ≤ 1000) (hd : ∀ i : Nat, i < ps.length → ∀ k, two2 (plc ps i) k ≠ -1 → dom (i : Nat) (two2 (plc ps i) k))
    (H : VHeap) (b bf vf bo : Nat) (ov : DV) (hb : H.length ≤ b) (hc : ChkOk g caps H bf vf bo p ps b holds dom) (h1 : hg H bf = ⟨vf, 0, true, [fdr p ps ov]⟩) (h2 : SlB H bo 5 (B.map eB) ov) (h3 : bo ≠ bf) (h4 : bo < b) (h5 : bf < b) :
    OkF (F PP shF 116 [.mp bf vf 0 0, dI rule, .fn g caps] H b) (FndTo H bf vf bo p ps b B (B ++ oneL rule holds ps ps.length)) := by
  refine F_ok PP116 rfl ⟨by simp [ir116], by simpa using hb⟩ ?_
  have hS : FndS H bf vf bo p ps b 43 B H := .start h1 h2 h3 h4 h5
  simp -implicitDefEqProofs only [go_sem, ir116, h1]
  refine (one_l1 H bf vf bo p ps b B rule g caps holds dom hsg hc hB hps hd 0 _ ⟨?_, ?_, ?_, ?_, ?_, ?_, ?_, by omega⟩).mono ?_ <;> (try simp -implicitDefEqProofs only [go_sem, ])
  · simp only [oneL, List.append_nil]; exact hS
  · rintro e ⟨E, H'⟩ ⟨rfl, hF⟩
    simp only at hF
    simp -implicitDefEqProofs only [go_sem, ]
    exact hF.to
def apX (c : Conf) (i : Int) (x : Plc) : List Brk := if x.home ≠ -1 ∧ x.sby ≠ -1 ∧ apartB c x.home x.sby = false then [⟨5, i, -1, x.sby, -1⟩] else []
def apL (c : Conf) (ps : List Plc) : Nat → List Brk
  | 0 => []
  | i + 1 => apL c ps i ++ apX c (i : Nat) (plc ps i)
theorem apL_len (c : Conf) (ps : List Plc) : ∀ k, (apL c ps k).length ≤ k
  | 0 => by simp [apL]
  | k + 1 => by
    simp only [apL, List.length_append]; have := apL_len c ps k
    have : (apX c (k : Nat) (plc ps k)).length ≤ 1 := by unfold apX; split <;> simp
    omega
def L119 (H0 : VHeap) (bf vf bo0 : Nat) (p : Prob) (ps : List Plc) (b : Nat) (B : List Brk) (i : Nat) (w : VSt) : Prop :=
  gt .bad w.E 0 = .mp bf vf 0 0 ∧ gt .bad w.E 7 = .sl (ps.map eP) ∧ gt .bad w.E 8 = dI (ps.length : Nat) ∧ gt .bad w.E 9 = dI (i : Nat) ∧ FndS H0 bf vf bo0 p ps b 39 (B ++ apL p.conf ps i) w.H ∧ i ≤ ps.length
theorem apart_loop (H0 : VHeap) (bf vf bo0 : Nat) (p : Prob) (hc : ConfOk p.conf) (ps : List Plc) (b : Nat) (B : List Brk) (hB : B.length ≤ 10000) (hps : ps.length ≤ 1000) : ∀ i w, L119 H0 bf vf bo0 p ps b B i w → Ok (R PP shF b 39 (.loop ir119_l0) w) (fun e w => e = .exit 0 ∧ FndS H0 bf vf bo0 p ps b 39 (B ++ apL p.conf ps ps.length) w.H) := by
  refine Ok_up ps.length _ fun i w hI => ?_
  obtain ⟨E, H⟩ := w
  obtain ⟨e0, e7, e8, e9, hF, hk⟩ := hI
  simp only at e0 e7 e8 e9 hF
  have w1 : IntKind.wrap .i64 ((i : Int) + 1) = ((i + 1 : Nat) : Int) := by rw [w64 (by omega) (by omega)]; rfl
  by_cases hlt : i < ps.length
  · have d1 : decide ((i : Int) < (ps.length : Int)) = true := by simp; omega
    have q0 : (0 : Int) ≤ (i : Int) := by omega
    have q1 : (i : Int) < (ps.length : Int) := by omega
    have g1 : ps[i]? = some (plc ps i) := getD_at hlt
    have hl := apL_len p.conf ps i
    have hK : apL p.conf ps (i + 1) = apL p.conf ps i ++ apX p.conf (i : Nat) (plc ps i) := rfl
    generalize plc ps i = x at *
    have hF2 : FndS H0 bf vf bo0 p ps b 39 (B ++ apL p.conf ps i) (hs (hs (hs (hs H (b + 2) ⟨(hg H (b + 2)).ver + 1, 0, true, [[dI 0]]⟩) (b + 3) ⟨(hg H (b + 3)).ver + 1, 0, true, [[dI 0, dI 0]]⟩) (b + 2) ⟨(hg H (b + 2)).ver + 1, 0, true, [[dI (i : Nat)]]⟩) (b + 3) ⟨(hg H (b + 3)).ver + 1, 0, true, [[dI x.home, dI x.sby]]⟩) := (((hF.own (by omega) (by omega)).own (by omega) (by omega)).own (by omega) (by omega)).own (by omega) (by omega)
    have hbf := hF.bfb
    obtain ⟨bo, ov, hbv, _⟩ := hF.ex
    have n1 : ¬ b + 2 = bf := by omega
    have n2 : ¬ b + 3 = bf := by omega
    have B1 := FV_Apart p.conf hc x.home x.sby
    by_cases h1 : x.home = -1
    · have z0 : (x.home != -1) = false := by simp [h1]
      have hx : apX p.conf (i : Nat) x = [] := by unfold apX; rw [if_neg (by simp [h1])]
      rw [hx, List.append_nil] at hK
      simp -implicitDefEqProofs only [go_sem, ir119_l0, e0, e7, e8, e9, d1, q0, q1, g1, w1, z0]
      refine .next hlt ⟨?_, ?_, ?_, ?_, ?_, by omega⟩ <;> (try simp -implicitDefEqProofs only [go_sem, e0, e7, e8, w1])
      rw [hK]; exact hF2
    have z0 : (x.home != -1) = true := by simp [h1]
    by_cases h2 : x.sby = -1
    · have z1 : (x.sby != -1) = false := by simp [h2]
      have hx : apX p.conf (i : Nat) x = [] := by unfold apX; rw [if_neg (by simp [h2])]
      rw [hx, List.append_nil] at hK
      simp -implicitDefEqProofs only [go_sem, ir119_l0, e0, e7, e8, e9, d1, q0, q1, g1, w1, z0, z1]
      refine .next hlt ⟨?_, ?_, ?_, ?_, ?_, by omega⟩ <;> (try simp -implicitDefEqProofs only [go_sem, e0, e7, e8, w1])
      rw [hK]; exact hF2
    have z1 : (x.sby != -1) = true := by simp [h2]
    cases hh : apartB p.conf x.home x.sby with
    | true =>
      rw [hh] at B1
      have hx : apX p.conf (i : Nat) x = [] := by unfold apX; rw [if_neg (by simp [hh])]
      rw [hx, List.append_nil] at hK
      simp -implicitDefEqProofs only [go_sem, ir119_l0, e0, e7, e8, e9, d1, q0, q1, g1, w1, z0, z1, hbv, n1, n2, eK, vpS B1 rfl]
      refine .next hlt ⟨?_, ?_, ?_, ?_, ?_, by omega⟩ <;> (try simp -implicitDefEqProofs only [go_sem, e0, e7, e8, w1])
      rw [hK]; exact hF2
    | false =>
      rw [hh] at B1
      have hx : apX p.conf (i : Nat) x = [⟨5, i, -1, x.sby, -1⟩] := by unfold apX; rw [if_pos ⟨h1, h2, hh⟩]
      rw [hx] at hK
      have A := fun b1 hb1 hb2 => hF2.add (rule := 5) (gs := 127) (caps := [.mp (b + 2) ((hg H (b + 2)).ver + 1) 0 0, .mp (b + 3) ((hg H (b + 3)).ver + 1) 0 0]) (x := ⟨5, i, -1, x.sby, -1⟩) rfl (by simp; omega) (b1 := b1) hb1 hb2 (set_127 _ _ _ _ x.home _ _ _ _ _ (by rw [hg_hs, if_neg (by omega), hg_hs, if_pos rfl]) (by rw [hg_hs, if_pos rfl]) (by omega) (by omega))
      have A1 := fun b1 hb1 hb2 => (A b1 hb1 hb2).1
      simp -implicitDefEqProofs only [go_sem, ir119_l0, e0, e7, e8, e9, d1, q0, q1, g1, w1, z0, z1, hbv, n1, n2, eK, vpS B1 rfl, A1]
      obtain ⟨_, hF', hfr⟩ := A (max (max (max (max (max (List.length H) (b + 2 + 1)) (b + 3 + 1)) (b + 2 + 1)) (b + 3 + 1)) (b + 39)) (by simp only [hs_len]; omega) (by omega)
      generalize FH 110 _ _ _ = H' at hF' ⊢
      refine .next hlt ⟨?_, ?_, ?_, ?_, ?_, by omega⟩ <;> (try simp -implicitDefEqProofs only [go_sem, e0, e7, e8, w1])
      rw [hK, ← List.append_assoc]; exact hF'
  · have hkl : i = ps.length := by omega
    have d1 : decide ((i : Int) < (ps.length : Int)) = false := by simp; omega
    simp -implicitDefEqProofs only [go_sem, ir119_l0, e8, e9, d1]
    subst hkl
    exact .exit ⟨rfl, hF⟩
theorem fapart_ok (p : Prob) (hc : ConfOk p.conf) (ps : List Plc) (B : List Brk) (hB : B.length ≤ 10000) (hps : ps.length ≤ 1000) (H : VHeap) (b bf vf bo : Nat) (ov : DV) (hb : H.length ≤ b) (h1 : hg H bf = ⟨vf, 0, true, [fdr p ps ov]⟩) (h2 : SlB H bo 5 (B.map eB) ov) (h3 : bo ≠ bf) (h4 : bo < b) (h5 : bf < b) :
    OkF (F PP shF 119 [.mp bf vf 0 0] H b) (FndTo H bf vf bo p ps b B (B ++ apL p.conf ps ps.length)) := by
  refine F_ok PP119 rfl ⟨by simp [ir119], by simpa using hb⟩ ?_
  have hS : FndS H bf vf bo p ps b 39 B H := .start h1 h2 h3 h4 h5
  simp -implicitDefEqProofs only [go_sem, ir119, h1]
  refine (apart_loop H bf vf bo p hc ps b B hB hps 0 _ ⟨?_, ?_, ?_, ?_, ?_, by omega⟩).mono ?_ <;> (try simp -implicitDefEqProofs only [go_sem, ])
  · simp only [apL, List.append_nil]; exact hS
  · rintro e ⟨E, H'⟩ ⟨rfl, hF⟩
    simp only at hF
    simp -implicitDefEqProofs only [go_sem, ]
    exact hF.to
def prX (rule : Int) (clash : Nat → Nat → Bool) (ps : List Plc) (i k : Nat) : List Brk := if (plc ps i).home ≠ -1 ∧ (plc ps k).home ≠ -1 ∧ clash i k = true then [⟨rule, i, k, (plc ps k).home, -1⟩] else []
def prK (rule : Int) (clash : Nat → Nat → Bool) (ps : List Plc) (i : Nat) : Nat → List Brk
  | 0 => []
  | k + 1 => prK rule clash ps i k ++ prX rule clash ps i k
def prL (rule : Int) (clash : Nat → Nat → Bool) (ps : List Plc) : Nat → List Brk
  | 0 => []
  | i + 1 => prL rule clash ps i ++ prK rule clash ps i i
theorem prK_len (rule : Int) (clash : Nat → Nat → Bool) (ps : List Plc) (i : Nat) : ∀ k, (prK rule clash ps i k).length ≤ k
  | 0 => by simp [prK]
  | k + 1 => by
    simp only [prK, List.length_append]; have := prK_len rule clash ps i k
    have : (prX rule clash ps i k).length ≤ 1 := by unfold prX; split <;> simp
    omega
theorem prL_len (rule : Int) (clash : Nat → Nat → Bool) (ps : List Plc) : ∀ k, (prL rule clash ps k).length ≤ k * k
  | 0 => by simp [prL]
  | k + 1 => by
    simp only [prL, List.length_append]; have := prL_len rule clash ps k; have := prK_len rule clash ps k k
    have : (k + 1) * (k + 1) = k * k + k + k + 1 := by rw [Nat.add_mul, Nat.mul_add]; omega
    omega
def ClsOk (g : Nat) (caps : List DV) (H0 : VHeap) (bf vf bo0 : Nat) (p : Prob) (ps : List Plc) (b : Nat) (clash : Nat → Nat → Bool) : Prop :=
  ∀ (H : VHeap) (nt : Nat) (B : List Brk), FndS H0 bf vf bo0 p ps b nt B H → ∃ fc, mapO (frzD H 6) caps = some fc ∧ ∀ i k : Nat, i < ps.length → k < i → (plc ps i).home ≠ -1 → (plc ps k).home ≠ -1 → FV PP shF g (dI (i : Nat) :: dI (k : Nat) :: fc) = some (dB (clash i k))
def L120 (H0 : VHeap) (bf vf bo0 : Nat) (p : Prob) (ps : List Plc) (b : Nat) (B : List Brk) (rule : Int) (g : Nat) (caps : List DV) (v3 : Nat) (w : VSt) : Prop :=
  gt .bad w.E 1 = dI rule ∧ gt .bad w.E 2 = .fn g caps ∧ gt .bad w.E 3 = .mp (b + 3) v3 0 0 ∧ hg w.H (b + 3) = ⟨v3, 0, true, [[.mp bf vf 0 0]]⟩ ∧ gt .bad w.E 12 = dI (ps.length : Nat) ∧ FndS H0 bf vf bo0 p ps b 52 B w.H
def L120i (H0 : VHeap) (bf vf bo0 : Nat) (p : Prob) (ps : List Plc) (b : Nat) (B : List Brk) (rule : Int) (g : Nat) (caps : List DV) (v3 : Nat) (clash : Nat → Nat → Bool) (i k : Nat) (w : VSt) : Prop :=
  ∃ v6 : Nat, L120 H0 bf vf bo0 p ps b (B ++ prK rule clash ps i k) rule g caps v3 w ∧ gt .bad w.E 6 = .mp (b + 6) v6 0 0 ∧ hg w.H (b + 6) = ⟨v6, 0, true, [[dI (i : Nat)]]⟩ ∧ gt .bad w.E 13 = dI (i : Nat) ∧ gt .bad w.E 16 = dI (i : Nat) ∧ gt .bad w.E 17 = dI (k : Nat) ∧ k ≤ i
theorem pairs_l0 (H0 : VHeap) (bf vf bo0 : Nat) (p : Prob) (ps : List Plc) (b : Nat) (B : List Brk) (rule : Int) (g : Nat) (caps : List DV) (v3 : Nat) (clash : Nat → Nat → Bool) (hsg : shF g = false) (hc : ClsOk g caps H0 bf vf bo0 p ps b clash) (hB : B.length ≤ 10000) (i : Nat) (hi : i < ps.length) (hps : ps.length ≤ 100) :
    ∀ k w, L120i H0 bf vf bo0 p ps b B rule g caps v3 clash i k w → Ok (R PP shF b 52 (.loop ir120_l0) w) (fun e w => e = .exit 2 ∧ L120i H0 bf vf bo0 p ps b B rule g caps v3 clash i i w) := by
  refine Ok_up i _ fun k w hI => ?_
  obtain ⟨E, H⟩ := w
  obtain ⟨v6, ⟨e1, e2, e3, h3, e12, hF⟩, e6, h6, e13, e16, e17, hk⟩ := hI
  simp only at e1 e2 e3 h3 e12 hF e6 h6 e13 e16 e17
  have w1 : IntKind.wrap .i64 ((k : Int) + 1) = ((k + 1 : Nat) : Int) := by rw [w64 (by omega) (by omega)]; rfl
  by_cases hlt : k < i
  · have d1 : decide ((k : Int) < (i : Int)) = true := by simp; omega
    have q0 : (0 : Int) ≤ (k : Int) := by omega
    have q1 : (k : Int) < (ps.length : Int) := by omega
    have r0 : (0 : Int) ≤ (i : Int) := by omega
    have r1 : (i : Int) < (ps.length : Int) := by omega
    have gk : ps[k]? = some (plc ps k) := getD_at (by omega)
    have gi : ps[i]? = some (plc ps i) := getD_at (by omega)
    have hl := prK_len rule clash ps i k
    have hK : prK rule clash ps i (k + 1) = prK rule clash ps i k ++ prX rule clash ps i k := rfl
    have hF2 : FndS H0 bf vf bo0 p ps b 52 (B ++ prK rule clash ps i k) (hs H (b + 7) ⟨(hg H (b + 7)).ver + 1, 0, true, [[dI (k : Nat)]]⟩) := hF.own (by omega) (by omega)
    have hbf := hF.bfb
    obtain ⟨bo, ov, hbv, _⟩ := hF.ex
    have n1 : ¬ b + 3 = bf := by omega
    have n2 : ¬ b + 6 = bf := by omega
    have n3 : ¬ b + 7 = bf := by omega
    have n4 : ¬ b + 7 = b + 3 := by omega
    have n5 : ¬ b + 7 = b + 6 := by omega
    by_cases h1 : (plc ps i).home = -1
    · have z0 : ((plc ps i).home != -1) = false := by simp [h1]
      have hx : prX rule clash ps i k = [] := by unfold prX; rw [if_neg (by simp [h1])]
      rw [hx, List.append_nil] at hK
      simp -implicitDefEqProofs only [go_sem, ir120_l0, e1, e2, e3, h3, e12, e6, h6, e13, e16, e17, d1, q0, q1, r0, r1, gk, gi, hbv, n1, n2, n3, n4, n5, w1, hs_hs, z0]
      refine .next hlt ⟨v6, ⟨?_, ?_, ?_, ?_, ?_, ?_⟩, ?_, ?_, ?_, ?_, ?_, by omega⟩ <;> (try simp -implicitDefEqProofs only [go_sem, e1, e2, e3, h3, e12, e6, h6, e13, e16, w1])
      rw [hK]; exact hF2
    have z0 : ((plc ps i).home != -1) = true := by simp [h1]
    by_cases h2 : (plc ps k).home = -1
    · have z1 : ((plc ps k).home != -1) = false := by simp [h2]
      have hx : prX rule clash ps i k = [] := by unfold prX; rw [if_neg (by simp [h2])]
      rw [hx, List.append_nil] at hK
      simp -implicitDefEqProofs only [go_sem, ir120_l0, e1, e2, e3, h3, e12, e6, h6, e13, e16, e17, d1, q0, q1, r0, r1, gk, gi, hbv, n1, n2, n3, n4, n5, w1, hs_hs, z0, z1]
      refine .next hlt ⟨v6, ⟨?_, ?_, ?_, ?_, ?_, ?_⟩, ?_, ?_, ?_, ?_, ?_, by omega⟩ <;> (try simp -implicitDefEqProofs only [go_sem, e1, e2, e3, h3, e12, e6, h6, e13, e16, w1])
      rw [hK]; exact hF2
    have z1 : ((plc ps k).home != -1) = true := by simp [h2]
    obtain ⟨fc, hfc, hv⟩ := hc _ _ _ hF2
    have B1 := hv i k hi hlt h1 h2
    cases hh : clash i k with
    | false =>
      rw [hh] at B1
      have hx : prX rule clash ps i k = [] := by unfold prX; rw [if_neg (by simp [hh])]
      rw [hx, List.append_nil] at hK
      simp -implicitDefEqProofs only [go_sem, ir120_l0, e1, e2, e3, h3, e12, e6, h6, e13, e16, e17, d1, q0, q1, r0, r1, gk, gi, hbv, n1, n2, n3, n4, n5, w1, hs_hs, z0, z1, vcallE_pure hsg, hfc, hsg, vpS B1 rfl]
      refine .next hlt ⟨v6, ⟨?_, ?_, ?_, ?_, ?_, ?_⟩, ?_, ?_, ?_, ?_, ?_, by omega⟩ <;> (try simp -implicitDefEqProofs only [go_sem, e1, e2, e3, h3, e12, e6, h6, e13, e16, w1])
      rw [hK]; exact hF2
    | true =>
      rw [hh] at B1
      have hx : prX rule clash ps i k = [⟨rule, i, k, (plc ps k).home, -1⟩] := by unfold prX; rw [if_pos ⟨h1, h2, hh⟩]
      rw [hx] at hK
      have A := fun b1 hb1 hb2 => hF2.add (rule := rule) (gs := 128) (caps := [.mp (b + 6) v6 0 0, .mp (b + 7) ((hg H (b + 7)).ver + 1) 0 0, .mp (b + 3) v3 0 0]) (x := ⟨rule, i, k, (plc ps k).home, -1⟩) rfl (by simp; omega) (b1 := b1) hb1 hb2
        (set_128 _ _ _ _ _ p ps ov _ _ _ _ _ _ bf vf (by rw [hg_hs, if_neg (by omega)]; exact h6) (by rw [hg_hs, if_pos rfl]) (by rw [hg_hs, if_neg (by omega)]; exact h3) (by rw [hg_hs, if_neg (by omega)]; exact hbv) (by omega) (by omega) (by omega) (by omega) (by omega))
      have A1 := fun b1 hb1 hb2 => (A b1 hb1 hb2).1
      simp -implicitDefEqProofs only [go_sem, ir120_l0, e1, e2, e3, h3, e12, e6, h6, e13, e16, e17, d1, q0, q1, r0, r1, gk, gi, hbv, n1, n2, n3, n4, n5, w1, hs_hs, z0, z1, vcallE_pure hsg, hfc, hsg, vpS B1 rfl, A1]
      obtain ⟨_, hF', hfr⟩ := A (max (max (List.length H) (b + 7 + 1)) (b + 52)) (by simp only [hs_len]; omega) (by omega)
      have h3' := hfr (b + 3) (by omega) (by omega)
      rw [hg_hs, if_neg (by omega), h3] at h3'
      have h6' := hfr (b + 6) (by omega) (by omega)
      rw [hg_hs, if_neg (by omega), h6] at h6'
      generalize FH 110 _ _ _ = H' at hF' h3' h6' ⊢
      refine .next hlt ⟨v6, ⟨?_, ?_, ?_, h3', ?_, ?_⟩, ?_, h6', ?_, ?_, ?_, by omega⟩ <;> (try simp -implicitDefEqProofs only [go_sem, e1, e2, e3, e12, e6, e13, e16, w1])
      rw [hK, ← List.append_assoc]; exact hF'
  · have hkl : k = i := by omega
    have d1 : decide ((k : Int) < (i : Int)) = false := by simp; omega
    simp -implicitDefEqProofs only [go_sem, ir120_l0, e16, e17, d1]
    subst hkl
    refine .exit ⟨rfl, v6, ⟨?_, ?_, ?_, h3, ?_, hF⟩, ?_, h6, ?_, ?_, ?_, by omega⟩ <;> simp -implicitDefEqProofs only [go_sem, e1, e2, e3, e12, e6, e13, e16, e17]
theorem pairs_l1 (H0 : VHeap) (bf vf bo0 : Nat) (p : Prob) (ps : List Plc) (b : Nat) (B : List Brk) (rule : Int) (g : Nat) (caps : List DV) (v3 : Nat) (clash : Nat → Nat → Bool) (hsg : shF g = false) (hc : ClsOk g caps H0 bf vf bo0 p ps b clash) (hB : B.length ≤ 1000) (hps : ps.length ≤ 50) :
    ∀ i w, (L120 H0 bf vf bo0 p ps b (B ++ prL rule clash ps i) rule g caps v3 w ∧ gt .bad w.E 13 = dI (i : Nat) ∧ i ≤ ps.length) → Ok (R PP shF b 52 (.loop ir120_l1) w) (fun e w => e = .exit 0 ∧ FndS H0 bf vf bo0 p ps b 52 (B ++ prL rule clash ps ps.length) w.H) := by
  refine Ok_up ps.length (fun i w => L120 H0 bf vf bo0 p ps b (B ++ prL rule clash ps i) rule g caps v3 w ∧ gt .bad w.E 13 = dI (i : Nat) ∧ i ≤ ps.length) fun i w hI => ?_
  obtain ⟨E, H⟩ := w
  obtain ⟨⟨e1, e2, e3, h3, e12, hF⟩, e13, hk⟩ := hI
  simp only at e1 e2 e3 h3 e12 hF e13
  have w1 : IntKind.wrap .i64 ((i : Int) + 1) = ((i + 1 : Nat) : Int) := by rw [w64 (by omega) (by omega)]; rfl
  by_cases hlt : i < ps.length
  · have d1 : decide ((i : Int) < (ps.length : Int)) = true := by simp; omega
    have hl := prL_len rule clash ps i
    have hl2 : i * i ≤ 50 * 50 := Nat.mul_le_mul (by omega) (by omega)
    have n4 : ¬ b + 6 = b + 3 := by omega
    have hF2 : FndS H0 bf vf bo0 p ps b 52 (B ++ prL rule clash ps i) (hs H (b + 6) ⟨(hg H (b + 6)).ver + 1, 0, true, [[dI (i : Nat)]]⟩) := hF.own (by omega) (by omega)
    simp -implicitDefEqProofs only [go_sem, ir120_l1, e1, e2, e3, h3, e12, e13, d1, w1, hs_hs]
    refine (pairs_l0 H0 bf vf bo0 p ps b (B ++ prL rule clash ps i) rule g caps v3 clash hsg hc (by simp; omega) i hlt (by omega) 0 _ ⟨(hg H (b + 6)).ver + 1, ⟨?_, ?_, ?_, ?_, ?_, ?_⟩, ?_, ?_, ?_, ?_, ?_, by omega⟩).mono ?_ <;> (try simp -implicitDefEqProofs only [go_sem, e1, e2, e3, h3, e12, e13])
    · simp only [prK, List.append_nil]; exact hF2
    · rintro e ⟨E', H'⟩ ⟨rfl, v6, ⟨f1, f2, f3, g3, f12, hF'⟩, f6, g6, f13, f16, f17, _⟩
      simp only at f1 f2 f3 g3 f12 hF' f13
      simp -implicitDefEqProofs only [go_sem, f13, w1]
      refine .next hlt ⟨⟨?_, ?_, ?_, g3, ?_, ?_⟩, ?_, by omega⟩ <;> (try simp -implicitDefEqProofs only [go_sem, f1, f2, f3, f12])
      rw [show prL rule clash ps (i + 1) = prL rule clash ps i ++ prK rule clash ps i i from rfl, ← List.append_assoc]
      exact hF'
  · have hkl : i = ps.length := by omega
    have d1 : decide ((i : Int) < (ps.length : Int)) = false := by simp; omega
    simp -implicitDefEqProofs only [go_sem, ir120_l1, e12, e13, d1]
    subst hkl
    exact .exit ⟨rfl, hF⟩
theorem pairs_ok (p : Prob) (ps : List Plc) (B : List Brk) (rule : Int) (g : Nat) (caps : List DV) (clash : Nat → Nat → Bool) (hsg : shF g = false) (hB : B.length ≤ 1000) (hps : ps.length ≤ 50) (H : VHeap) (b bf vf bo : Nat) (ov : DV) (hb : H.length ≤ b) (hc : ClsOk g caps H bf vf bo p ps b clash) (h1 : hg H bf = ⟨vf, 0, true, [fdr p ps ov]⟩) (h2 : SlB H bo 5 (B.map eB) ov) (h3 : bo ≠ bf) (h4 : bo < b) (h5 : bf < b) :
    OkF (F PP shF 120 [.mp bf vf 0 0, dI rule, .fn g caps] H b) (FndTo H bf vf bo p ps b B (B ++ prL rule clash ps ps.length)) := by
  refine F_ok PP120 rfl ⟨by simp [ir120], by simpa using hb⟩ ?_
  have hS : FndS H bf vf bo p ps b 52 B H := .start h1 h2 h3 h4 h5
  have n1 : ¬ b + 3 = bf := by omega
  simp -implicitDefEqProofs only [go_sem, ir120, h1, n1]
  refine (pairs_l1 H bf vf bo p ps b B rule g caps ((hg H (b + 3)).ver + 1) clash hsg hc hB hps 0 _ ⟨⟨?_, ?_, ?_, ?_, ?_, ?_⟩, ?_, by omega⟩).mono ?_ <;> (try simp -implicitDefEqProofs only [go_sem, ])
  · simp only [prL, List.append_nil]; exact hS.own (by omega) (by omega)
  · rintro e ⟨E, H'⟩ ⟨rfl, hF⟩
    simp only at hF
    simp -implicitDefEqProofs only [go_sem, ]
    exact hF.to
def capI (c : Conf) (i : Nat) : Int := (c.cells.getD i ⟨0, 0⟩).cap
def cpX (c : Conf) (bk : List Int) (i : Nat) : List Brk := if bk.getD i 0 > capI c i then [⟨8, -1, -1, i, -1⟩] else []
def cpL (c : Conf) (bk : List Int) : Nat → List Brk
  | 0 => []
  | i + 1 => cpL c bk i ++ cpX c bk i
theorem cpL_len (c : Conf) (bk : List Int) : ∀ k, (cpL c bk k).length ≤ k
  | 0 => by simp [cpL]
  | k + 1 => by
    simp only [cpL, List.length_append]; have := cpL_len c bk k
    have : (cpX c bk k).length ≤ 1 := by unfold cpX; split <;> simp
    omega
def L123 (H0 : VHeap) (bf vf bo0 : Nat) (p : Prob) (ps : List Plc) (b : Nat) (B : List Brk) (bk : List Int) (i : Nat) (w : VSt) : Prop :=
  gt .bad w.E 0 = .mp bf vf 0 0 ∧ gt .bad w.E 12 = dL bk ∧ gt .bad w.E 13 = dI (bk.length : Nat) ∧ gt .bad w.E 14 = dI (i : Nat) ∧ FndS H0 bf vf bo0 p ps b 35 (B ++ cpL p.conf bk i) w.H ∧ i ≤ bk.length
theorem capacity_loop (H0 : VHeap) (bf vf bo0 : Nat) (p : Prob) (ps : List Plc) (b : Nat) (B : List Brk) (hB : B.length ≤ 10000) (bk : List Int) (hbk : bk.length = p.conf.cells.length) (hc : Lens p.conf) : ∀ i w, L123 H0 bf vf bo0 p ps b B bk i w → Ok (R PP shF b 35 (.loop ir123_l0) w) (fun e w => e = .exit 0 ∧ FndS H0 bf vf bo0 p ps b 35 (B ++ cpL p.conf bk bk.length) w.H) := by
  refine Ok_up bk.length _ fun i w hI => ?_
  obtain ⟨E, H⟩ := w
  obtain ⟨e0, e12, e13, e14, hF, hk⟩ := hI
  simp only at e0 e12 e13 e14 hF
  have hcc := hc.c
  have w1 : IntKind.wrap .i64 ((i : Int) + 1) = ((i + 1 : Nat) : Int) := by rw [w64 (by omega) (by omega)]; rfl
  by_cases hlt : i < bk.length
  · have d1 : decide ((i : Int) < (bk.length : Int)) = true := by simp; omega
    have q0 : (0 : Int) ≤ (i : Int) := by omega
    have q1 : (i : Int) < (bk.length : Int) := by omega
    have q2 : (i : Int) < (p.conf.cells.length : Int) := by omega
    have g1 := getD_at (l := bk) (i := i) (d := 0) hlt
    have g2 := getD_at (l := p.conf.cells) (i := i) (d := ⟨0, 0⟩) (by omega)
    have g3 : (p.conf.cells.getD i ⟨0, 0⟩).cap = capI p.conf i := rfl
    have hl := cpL_len p.conf bk i
    have hK : cpL p.conf bk (i + 1) = cpL p.conf bk i ++ cpX p.conf bk i := rfl
    have hF2 : FndS H0 bf vf bo0 p ps b 35 (B ++ cpL p.conf bk i) (hs H (b + 2) ⟨(hg H (b + 2)).ver + 1, 0, true, [[dI (i : Nat)]]⟩) := hF.own (by omega) (by omega)
    have hbf := hF.bfb
    obtain ⟨bo, ov, hbv, _⟩ := hF.ex
    have n1 : ¬ b + 2 = bf := by omega
    by_cases h1 : bk.getD i 0 > capI p.conf i
    · have z0 : decide (capI p.conf i < bk.getD i 0) = true := decide_eq_true h1
      have hx : cpX p.conf bk i = [⟨8, -1, -1, i, -1⟩] := by unfold cpX; rw [if_pos h1]
      rw [hx] at hK
      have A := fun b1 hb1 hb2 => hF2.add (rule := 8) (gs := 129) (caps := [.mp (b + 2) ((hg H (b + 2)).ver + 1) 0 0]) (x := ⟨8, -1, -1, i, -1⟩) rfl (by simp; omega) (b1 := b1) hb1 hb2 (set_129 _ _ _ _ _ _ (by rw [hg_hs, if_pos rfl]) (by omega))
      have A1 := fun b1 hb1 hb2 => (A b1 hb1 hb2).1
      simp -implicitDefEqProofs only [go_sem, ir123_l0, e0, e12, e13, e14, d1, q0, q1, q2, g1, g2, g3, w1, z0, hbv, n1, hs_hs, A1]
      obtain ⟨_, hF', hfr⟩ := A (max (max (List.length H) (b + 2 + 1)) (b + 35)) (by simp only [hs_len]; omega) (by omega)
      generalize FH 110 _ _ _ = H' at hF' ⊢
      refine .next hlt ⟨?_, ?_, ?_, ?_, ?_, by omega⟩ <;> (try simp -implicitDefEqProofs only [go_sem, e0, e12, e13, w1])
      rw [hK, ← List.append_assoc]; exact hF'
    · have z0 : decide (capI p.conf i < bk.getD i 0) = false := decide_eq_false h1
      have hx : cpX p.conf bk i = [] := by unfold cpX; rw [if_neg h1]
      rw [hx, List.append_nil] at hK
      simp -implicitDefEqProofs only [go_sem, ir123_l0, e0, e12, e13, e14, d1, q0, q1, q2, g1, g2, g3, w1, z0, hbv, n1, hs_hs]
      refine .next hlt ⟨?_, ?_, ?_, ?_, ?_, by omega⟩ <;> (try simp -implicitDefEqProofs only [go_sem, e0, e12, e13, w1])
      rw [hK]; exact hF2
  · have hkl : i = bk.length := by omega
    have d1 : decide ((i : Int) < (bk.length : Int)) = false := by simp; omega
    simp -implicitDefEqProofs only [go_sem, ir123_l0, e13, e14, d1]
    subst hkl
    exact .exit ⟨rfl, hF⟩
theorem capacity_ok (p : Prob) (hc : ConfOk p.conf) (ps : List Plc) (hps : ps.length = p.conf.tens.length) (B : List Brk) (hB : B.length ≤ 10000) (H : VHeap) (b bf vf bo : Nat) (ov : DV) (hb : H.length ≤ b) (h1 : hg H bf = ⟨vf, 0, true, [fdr p ps ov]⟩) (h2 : SlB H bo 5 (B.map eB) ov) (h3 : bo ≠ bf) (h4 : bo < b) (h5 : bf < b) :
    OkF (F PP shF 123 [.mp bf vf 0 0] H b) (FndTo H bf vf bo p ps b B (B ++ cpL p.conf (booked p.conf ps ps.length) p.conf.cells.length)) := by
  refine F_ok PP123 rfl ⟨by simp [ir123], by simpa using hb⟩ ?_
  have hS : FndS H bf vf bo p ps b 35 B H := .start h1 h2 h3 h4 h5
  have ht := hc.t1
  have K := FVF_Booked p hc ps (by omega)
  rw [show min ps.length p.conf.tens.length = ps.length by omega] at K
  have bl := booked_len p.conf ps ps.length
  have key := capacity_loop H bf vf bo p ps b B hB (booked p.conf ps ps.length) bl hc.lens 0
  generalize booked p.conf ps ps.length = bk at *
  simp -implicitDefEqProofs only [go_sem, ir123, h1, vpF K rfl, bl]
  refine (key _ ⟨?_, ?_, ?_, ?_, ?_, by omega⟩).mono ?_ <;> (try simp -implicitDefEqProofs only [go_sem, bl])
  · simp only [cpL, List.append_nil]; exact hS
  · rintro e ⟨E, H'⟩ ⟨rfl, hF⟩
    simp only [bl] at hF
    simp -implicitDefEqProofs only [go_sem, ]
    exact hF.to
def hrX (c : Conf) (bk ex : List Int) (r : Int) (i : Nat) : List Brk := if insideB c (i : Nat) r = false ∧ bk.getD i 0 + ex.getD i 0 > capI c i then [⟨9, -1, -1, i, r⟩] else []
def hrK (c : Conf) (bk ex : List Int) (r : Int) : Nat → List Brk
  | 0 => []
  | i + 1 => hrK c bk ex r i ++ hrX c bk ex r i
def hrL (c : Conf) (bk : List Int) (ps : List Plc) : Nat → List Brk
  | 0 => []
  | r + 1 => hrL c bk ps r ++ hrK c bk (extra c ps (r : Nat) ps.length) (r : Nat) c.cells.length
theorem hrK_len (c : Conf) (bk ex : List Int) (r : Int) : ∀ k, (hrK c bk ex r k).length ≤ k
  | 0 => by simp [hrK]
  | k + 1 => by
    simp only [hrK, List.length_append]; have := hrK_len c bk ex r k
    have : (hrX c bk ex r k).length ≤ 1 := by unfold hrX; split <;> simp
    omega
theorem hrL_len (c : Conf) (bk : List Int) (ps : List Plc) : ∀ k, (hrL c bk ps k).length ≤ k * c.cells.length
  | 0 => by simp [hrL]
  | k + 1 => by
    simp only [hrL, List.length_append]; have := hrL_len c bk ps k; have := hrK_len c bk (extra c ps (k : Nat) ps.length) (k : Nat) c.cells.length
    rw [Nat.add_mul]; omega
def L124 (H0 : VHeap) (bf vf bo0 : Nat) (p : Prob) (ps : List Plc) (b : Nat) (B : List Brk) (bk : List Int) (r : Nat) (w : VSt) : Prop :=
  gt .bad w.E 0 = .mp bf vf 0 0 ∧ gt .bad w.E 2 = dL bk ∧ gt .bad w.E 20 = dI p.conf.regions ∧ gt .bad w.E 21 = dI (r : Nat) ∧ FndS H0 bf vf bo0 p ps b 72 B w.H
def L124i (H0 : VHeap) (bf vf bo0 : Nat) (p : Prob) (ps : List Plc) (b : Nat) (B : List Brk) (bk ex : List Int) (r i : Nat) (w : VSt) : Prop :=
  ∃ v3 : Nat, L124 H0 bf vf bo0 p ps b (B ++ hrK p.conf bk ex (r : Nat) i) bk r w ∧ gt .bad w.E 3 = .mp (b + 3) v3 0 0 ∧ hg w.H (b + 3) = ⟨v3, 0, true, [[dI (r : Nat)]]⟩ ∧ gt .bad w.E 33 = dL ex ∧ gt .bad w.E 34 = dI (ex.length : Nat) ∧ gt .bad w.E 35 = dI (i : Nat) ∧ i ≤ ex.length
theorem headroom_l0 (H0 : VHeap) (bf vf bo0 : Nat) (p : Prob) (hc : ConfOk p.conf) (ps : List Plc) (b : Nat) (B : List Brk) (hB : B.length ≤ 10000) (bk ex : List Int) (hbk : bk.length = p.conf.cells.length) (hex : ex.length = p.conf.cells.length) (bd1 : ∀ j : Nat, 0 ≤ bk.getD j 0 ∧ bk.getD j 0 ≤ 1000) (bd2 : ∀ j : Nat, 0 ≤ ex.getD j 0 ∧ ex.getD j 0 ≤ 1000) (r : Nat) :
    ∀ i w, L124i H0 bf vf bo0 p ps b B bk ex r i w → Ok (R PP shF b 72 (.loop ir124_l0) w) (fun e w => e = .exit 2 ∧ L124i H0 bf vf bo0 p ps b B bk ex r ex.length w) := by
  refine Ok_up ex.length _ fun i w hI => ?_
  obtain ⟨E, H⟩ := w
  obtain ⟨v3, ⟨e0, e2, e20, e21, hF⟩, e3, h3, e33, e34, e35, hk⟩ := hI
  simp only at e0 e2 e20 e21 hF e3 h3 e33 e34 e35
  have hcc := hc.lens.c
  have w1 : IntKind.wrap .i64 ((i : Int) + 1) = ((i + 1 : Nat) : Int) := by rw [w64 (by omega) (by omega)]; rfl
  by_cases hlt : i < ex.length
  · have d1 : decide ((i : Int) < (ex.length : Int)) = true := by simp; omega
    have q0 : (0 : Int) ≤ (i : Int) := by omega
    have q1 : (i : Int) < (ex.length : Int) := by omega
    have q2 : (i : Int) < (p.conf.cells.length : Int) := by omega
    have q3 : (i : Int) < (bk.length : Int) := by omega
    have g1 := getD_at (l := bk) (i := i) (d := 0) (by omega)
    have g1' := getD_at (l := ex) (i := i) (d := 0) hlt
    have g2 := getD_at (l := p.conf.cells) (i := i) (d := ⟨0, 0⟩) (by omega)
    have g3 : (p.conf.cells.getD i ⟨0, 0⟩).cap = capI p.conf i := rfl
    have b1 := bd1 i
    have b2 := bd2 i
    have w2 : IntKind.wrap .i64 (bk.getD i 0 + ex.getD i 0) = bk.getD i 0 + ex.getD i 0 := w64 (by omega) (by omega)
    have hl := hrK_len p.conf bk ex (r : Nat) i
    have hK : hrK p.conf bk ex (r : Nat) (i + 1) = hrK p.conf bk ex (r : Nat) i ++ hrX p.conf bk ex (r : Nat) i := rfl
    have hF2 : FndS H0 bf vf bo0 p ps b 72 (B ++ hrK p.conf bk ex (r : Nat) i) (hs H (b + 4) ⟨(hg H (b + 4)).ver + 1, 0, true, [[dI (i : Nat)]]⟩) := hF.own (by omega) (by omega)
    have hbf := hF.bfb
    obtain ⟨bo, ov, hbv, _⟩ := hF.ex
    have n1 : ¬ b + 3 = bf := by omega
    have n2 : ¬ b + 4 = bf := by omega
    have n3 : ¬ b + 4 = b + 3 := by omega
    have I := FV_inside p hc.lens (i : Nat) (r : Nat)
    cases hin : insideB p.conf (i : Nat) (r : Nat) with
    | true =>
      rw [hin] at I
      have hx : hrX p.conf bk ex (r : Nat) i = [] := by unfold hrX; rw [if_neg (by simp [hin])]
      rw [hx, List.append_nil] at hK
      simp -implicitDefEqProofs only [go_sem, ir124_l0, e0, e2, e3, h3, e20, e21, e33, e34, e35, d1, q0, q1, q2, q3, g1, g1', g2, g3, w1, w2, hbv, n1, n2, n3, hs_hs, vpS I rfl]
      refine .next hlt ⟨v3, ⟨?_, ?_, ?_, ?_, ?_⟩, ?_, ?_, ?_, ?_, ?_, by omega⟩ <;> (try simp -implicitDefEqProofs only [go_sem, e0, e2, e20, e21, e3, h3, e33, e34, w1])
      rw [hK]; exact hF2
    | false =>
      rw [hin] at I
      by_cases h1 : bk.getD i 0 + ex.getD i 0 > capI p.conf i
      · have z0 : decide (capI p.conf i < bk.getD i 0 + ex.getD i 0) = true := decide_eq_true h1
        have hx : hrX p.conf bk ex (r : Nat) i = [⟨9, -1, -1, i, r⟩] := by unfold hrX; rw [if_pos ⟨hin, h1⟩]
        rw [hx] at hK
        have A := fun b1 hb1 hb2 => hF2.add (rule := 9) (gs := 130) (caps := [.mp (b + 3) v3 0 0, .mp (b + 4) ((hg H (b + 4)).ver + 1) 0 0]) (x := ⟨9, -1, -1, i, r⟩) rfl (by simp; omega) (b1 := b1) hb1 hb2 (set_130 _ _ _ _ _ _ _ _ _ (by rw [hg_hs, if_neg (by omega)]; exact h3) (by rw [hg_hs, if_pos rfl]) (by omega) (by omega))
        have A1 := fun b1 hb1 hb2 => (A b1 hb1 hb2).1
        simp -implicitDefEqProofs only [go_sem, ir124_l0, e0, e2, e3, h3, e20, e21, e33, e34, e35, d1, q0, q1, q2, q3, g1, g1', g2, g3, w1, w2, hbv, n1, n2, n3, hs_hs, vpS I rfl, z0, A1]
        obtain ⟨_, hF', hfr⟩ := A (max (max (List.length H) (b + 4 + 1)) (b + 72)) (by simp only [hs_len]; omega) (by omega)
        have h3' := hfr (b + 3) (by omega) (by omega)
        rw [hg_hs, if_neg (by omega), h3] at h3'
        generalize FH 110 _ _ _ = H' at hF' h3' ⊢
        refine .next hlt ⟨v3, ⟨?_, ?_, ?_, ?_, ?_⟩, ?_, h3', ?_, ?_, ?_, by omega⟩ <;> (try simp -implicitDefEqProofs only [go_sem, e0, e2, e20, e21, e3, e33, e34, w1])
        rw [hK, ← List.append_assoc]; exact hF'
      · have z0 : decide (capI p.conf i < bk.getD i 0 + ex.getD i 0) = false := decide_eq_false h1
        have hx : hrX p.conf bk ex (r : Nat) i = [] := by unfold hrX; rw [if_neg (fun h => h1 h.2)]
        rw [hx, List.append_nil] at hK
        simp -implicitDefEqProofs only [go_sem, ir124_l0, e0, e2, e3, h3, e20, e21, e33, e34, e35, d1, q0, q1, q2, q3, g1, g1', g2, g3, w1, w2, hbv, n1, n2, n3, hs_hs, vpS I rfl, z0]
        refine .next hlt ⟨v3, ⟨?_, ?_, ?_, ?_, ?_⟩, ?_, ?_, ?_, ?_, ?_, by omega⟩ <;> (try simp -implicitDefEqProofs only [go_sem, e0, e2, e20, e21, e3, h3, e33, e34, w1])
        rw [hK]; exact hF2
  · have hkl : i = ex.length := by omega
    have d1 : decide ((i : Int) < (ex.length : Int)) = false := by simp; omega
    simp -implicitDefEqProofs only [go_sem, ir124_l0, e34, e35, d1]
    subst hkl
    refine .exit ⟨rfl, v3, ⟨?_, ?_, ?_, ?_, hF⟩, ?_, h3, ?_, ?_, ?_, by omega⟩ <;> simp -implicitDefEqProofs only [go_sem, e0, e2, e20, e21, e3, e33, e34, e35]
theorem headroom_l1 (H0 : VHeap) (bf vf bo0 : Nat) (p : Prob) (hc : ConfOk p.conf) (ps : List Plc) (hps : ps.length = p.conf.tens.length) (b : Nat) (B : List Brk) (hB : B.length ≤ 1000) (bk : List Int) (hbk : bk.length = p.conf.cells.length) (bd1 : ∀ j : Nat, 0 ≤ bk.getD j 0 ∧ bk.getD j 0 ≤ 1000) (R' : Nat) (hR : (R' : Int) = p.conf.regions) :
    ∀ r w, (L124 H0 bf vf bo0 p ps b (B ++ hrL p.conf bk ps r) bk r w ∧ r ≤ R') → Ok (R PP shF b 72 (.loop ir124_l1) w) (fun e w => e = .exit 0 ∧ FndS H0 bf vf bo0 p ps b 72 (B ++ hrL p.conf bk ps R') w.H) := by
  refine Ok_up R' (fun r w => L124 H0 bf vf bo0 p ps b (B ++ hrL p.conf bk ps r) bk r w ∧ r ≤ R') fun r w hI => ?_
  obtain ⟨E, H⟩ := w
  obtain ⟨⟨e0, e2, e20, e21, hF⟩, hk⟩ := hI
  simp only at e0 e2 e20 e21 hF
  have hr3 := hc.r1
  have hc7 := hc.c1
  have ht5 := hc.t1
  have w1 : IntKind.wrap .i64 ((r : Int) + 1) = ((r + 1 : Nat) : Int) := by rw [w64 (by omega) (by omega)]; rfl
  by_cases hlt : r < R'
  · have d1 : decide ((r : Int) < p.conf.regions) = true := decide_eq_true (by omega)
    have hl := hrL_len p.conf bk ps r
    have hl2 : r * p.conf.cells.length ≤ 3 * 7 := Nat.mul_le_mul (by omega) hc7
    have X := FVF_Extra p hc ps (r : Nat) (by omega)
    rw [show min ps.length p.conf.tens.length = ps.length by omega] at X
    have xl := extra_len p.conf ps (r : Nat) ps.length
    have xb := extra_bd hc ps (r : Nat) ps.length (by omega)
    have hL : hrL p.conf bk ps (r + 1) = hrL p.conf bk ps r ++ hrK p.conf bk (extra p.conf ps (r : Nat) ps.length) (r : Nat) p.conf.cells.length := rfl
    have key := headroom_l0 H0 bf vf bo0 p hc ps b (B ++ hrL p.conf bk ps r) (by simp; omega) bk (extra p.conf ps (r : Nat) ps.length) hbk xl bd1 (fun j => by have := xb j; omega) r 0
    generalize extra p.conf ps (r : Nat) ps.length = ex at *
    have hF2 : FndS H0 bf vf bo0 p ps b 72 (B ++ hrL p.conf bk ps r) (hs H (b + 3) ⟨(hg H (b + 3)).ver + 1, 0, true, [[dI (r : Nat)]]⟩) := hF.own (by omega) (by omega)
    have hbf := hF.bfb
    obtain ⟨bo, ov, hbv, _⟩ := hF.ex
    have n1 : ¬ b + 3 = bf := by omega
    simp -implicitDefEqProofs only [go_sem, ir124_l1, e0, e2, e20, e21, d1, w1, hbv, n1, hs_hs, vpF X rfl]
    refine (key _ ⟨(hg H (b + 3)).ver + 1, ⟨?_, ?_, ?_, ?_, ?_⟩, ?_, ?_, ?_, ?_, ?_, by omega⟩).mono ?_ <;> (try simp -implicitDefEqProofs only [go_sem, e0, e2, e20, e21])
    · simp only [hrK, List.append_nil]; exact hF2
    · rintro e ⟨E', H'⟩ ⟨rfl, v3, ⟨f0, f2, f20, f21, hF'⟩, _⟩
      simp only at f0 f2 f20 f21 hF'
      simp -implicitDefEqProofs only [go_sem, f21, w1]
      refine .next hlt ⟨⟨?_, ?_, ?_, ?_, ?_⟩, by omega⟩ <;> (try simp -implicitDefEqProofs only [go_sem, f0, f2, f20])
      rw [hL, ← List.append_assoc, ← xl]
      exact hF'
  · have hkl : r = R' := by omega
    have d1 : decide ((r : Int) < p.conf.regions) = false := decide_eq_false (by omega)
    simp -implicitDefEqProofs only [go_sem, ir124_l1, e20, e21, d1]
    subst hkl
    exact .exit ⟨rfl, hF⟩
theorem headroom_ok (p : Prob) (hc : ConfOk p.conf) (ps : List Plc) (hps : ps.length = p.conf.tens.length) (B : List Brk) (hB : B.length ≤ 1000) (H : VHeap) (b bf vf bo : Nat) (ov : DV) (hb : H.length ≤ b) (h1 : hg H bf = ⟨vf, 0, true, [fdr p ps ov]⟩) (h2 : SlB H bo 5 (B.map eB) ov) (h3 : bo ≠ bf) (h4 : bo < b) (h5 : bf < b) :
    OkF (F PP shF 124 [.mp bf vf 0 0] H b) (FndTo H bf vf bo p ps b B (B ++ hrL p.conf (booked p.conf ps ps.length) ps p.conf.regions.toNat)) := by
  refine F_ok PP124 rfl ⟨by simp [ir124], by simpa using hb⟩ ?_
  have hS : FndS H bf vf bo p ps b 72 B H := .start h1 h2 h3 h4 h5
  have ht := hc.t1
  have hr0 := hc.r0
  have K := FVF_Booked p hc ps (by omega)
  rw [show min ps.length p.conf.tens.length = ps.length by omega] at K
  have bl := booked_len p.conf ps ps.length
  have bb := booked_bd hc ps ps.length (by omega)
  have key := headroom_l1 H bf vf bo p hc ps hps b B hB (booked p.conf ps ps.length) bl (fun j => by have := bb j; omega) p.conf.regions.toNat (by omega) 0
  generalize booked p.conf ps ps.length = bk at *
  simp -implicitDefEqProofs only [go_sem, ir124, h1, vpF K rfl]
  refine (key _ ⟨⟨?_, ?_, ?_, ?_, ?_⟩, by omega⟩).mono ?_ <;> (try simp -implicitDefEqProofs only [go_sem, ])
  · simp only [hrL, List.append_nil]; exact hS
  · rintro e ⟨E, H'⟩ ⟨rfl, hF⟩
    simp only at hF
    simp -implicitDefEqProofs only [go_sem, ]
    exact hF.to
theorem FV_partial1 (p : Prob) (ps : List Plc) (o : DV) (i n : Int) (h0 : 0 ≤ n) (h1 : n ≤ 64) : FV PP shF 117 [dI i, dI n, .rp [.rp (fdr p ps o)]] = some (dB (bit p.cells n)) := by
  refine FV_ok (F_ok PP117 rfl ⟨by simp [ir117], by simp⟩ ?_)
  have hs := shr_div p.cells n h0 h1
  have nr : ¬ n < 0 := by omega
  simp -implicitDefEqProofs only [go_sem, ir117, nr, hs, and1, bit]
  rfl
theorem FV_partial2 (c : Conf) (hc : ConfOk c) (i n : Int) : FV PP shF 118 [dI i, dI n, .rp (eK c)] = some (dB (mayB c i n)) := by
  refine FV_ok (F_ok PP118 rfl ⟨by simp [ir118], by simp⟩ ?_)
  simp -implicitDefEqProofs only [go_sem, ir118, eK, vpS (FV_MayAll c hc i n) rfl]
def grpB (c : Conf) (ps : List Plc) (i k : Nat) : Bool := decide ((ten c i).group > 0) && ((ten c i).group == (ten c k).group) && (zoneOf c (plc ps i).home == zoneOf c (plc ps k).home)
def nsyB (c : Conf) (ps : List Plc) (i k : Nat) : Bool := (ten c i).noisy && (ten c k).noisy && ((plc ps i).home == (plc ps k).home)
theorem FV_partial3 (p : Prob) (hc : Lens p.conf) (ps : List Plc) (o : DV) (i k : Nat) (hi : i < ps.length) (hk : k < ps.length) (hi2 : i < p.conf.tens.length) (hk2 : k < p.conf.tens.length) : FV PP shF 121 [dI (i : Nat), dI (k : Nat), .rp (eK p.conf), .rp [.rp (fdr p ps o)]] = some (dB (grpB p.conf ps i k)) := by
  refine FV_ok (F_ok PP121 rfl ⟨by simp [ir121], by simp⟩ ?_)
  have a0 : (0 : Int) ≤ (i : Int) := by omega
  have a1 : (i : Int) < (ps.length : Int) := by omega
  have a2 : (i : Int) < (p.conf.tens.length : Int) := by omega
  have b0 : (0 : Int) ≤ (k : Int) := by omega
  have b1 : (k : Int) < (ps.length : Int) := by omega
  have b2 : (k : Int) < (p.conf.tens.length : Int) := by omega
  have gi : ps[i]? = some (plc ps i) := getD_at hi
  have gk : ps[k]? = some (plc ps k) := getD_at hk
  have ti : p.conf.tens[i]? = some (ten p.conf i) := getD_at (l := p.conf.tens) (i := i) (d := ⟨0, 0, 0, 0, 0, 0, false⟩) hi2
  have tk : p.conf.tens[k]? = some (ten p.conf k) := getD_at (l := p.conf.tens) (i := k) (d := ⟨0, 0, 0, 0, 0, 0, false⟩) hk2
  have Z1 := FV_ZoneOf p.conf hc (plc ps i).home
  have Z2 := FV_ZoneOf p.conf hc (plc ps k).home
  unfold grpB
  cases h1 : decide ((ten p.conf i).group > 0) with
  | false =>
    have h1' : decide (0 < (ten p.conf i).group) = false := h1
    simp -implicitDefEqProofs only [go_sem, ir121, eK, a0, a1, a2, b0, b1, b2, gi, gk, ti, tk, h1']
  | true =>
    have h1' : decide (0 < (ten p.conf i).group) = true := h1
    cases h2 : ((ten p.conf i).group == (ten p.conf k).group) with
    | false => simp -implicitDefEqProofs only [go_sem, ir121, eK, a0, a1, a2, b0, b1, b2, gi, gk, ti, tk, h1', h2]
    | true => simp -implicitDefEqProofs only [go_sem, ir121, eK, a0, a1, a2, b0, b1, b2, gi, gk, ti, tk, h1', h2, vpS Z1 rfl, vpS Z2 rfl]
theorem FV_partial4 (p : Prob) (ps : List Plc) (o : DV) (i k : Nat) (hi : i < ps.length) (hk : k < ps.length) (hi2 : i < p.conf.tens.length) (hk2 : k < p.conf.tens.length) : FV PP shF 122 [dI (i : Nat), dI (k : Nat), .rp (eK p.conf), .rp [.rp (fdr p ps o)]] = some (dB (nsyB p.conf ps i k)) := by
  refine FV_ok (F_ok PP122 rfl ⟨by simp [ir122], by simp⟩ ?_)
  have a0 : (0 : Int) ≤ (i : Int) := by omega
  have a1 : (i : Int) < (ps.length : Int) := by omega
  have a2 : (i : Int) < (p.conf.tens.length : Int) := by omega
  have b0 : (0 : Int) ≤ (k : Int) := by omega
  have b1 : (k : Int) < (ps.length : Int) := by omega
  have b2 : (k : Int) < (p.conf.tens.length : Int) := by omega
  have gi : ps[i]? = some (plc ps i) := getD_at hi
  have gk : ps[k]? = some (plc ps k) := getD_at hk
  have ti : p.conf.tens[i]? = some (ten p.conf i) := getD_at (l := p.conf.tens) (i := i) (d := ⟨0, 0, 0, 0, 0, 0, false⟩) hi2
  have tk : p.conf.tens[k]? = some (ten p.conf k) := getD_at (l := p.conf.tens) (i := k) (d := ⟨0, 0, 0, 0, 0, 0, false⟩) hk2
  unfold nsyB
  cases h1 : (ten p.conf i).noisy with
  | false => simp -implicitDefEqProofs only [go_sem, ir122, eK, a0, a1, a2, b0, b1, b2, gi, gk, ti, tk, h1]
  | true =>
    cases h2 : (ten p.conf k).noisy with
    | false => simp -implicitDefEqProofs only [go_sem, ir122, eK, a0, a1, a2, b0, b1, b2, gi, gk, ti, tk, h1, h2]
    | true => simp -implicitDefEqProofs only [go_sem, ir122, eK, a0, a1, a2, b0, b1, b2, gi, gk, ti, tk, h1, h2]
/-- What a finder finds of open placements. -/
def partL (p : Prob) (ps : List Plc) : List Brk :=
  oneL 3 (fun _ n => bit p.cells n) ps ps.length ++ oneL 4 (fun i n => mayB p.conf i n) ps ps.length ++ apL p.conf ps ps.length ++ prL 6 (grpB p.conf ps) ps ps.length ++ prL 7 (nsyB p.conf ps) ps ps.length ++ cpL p.conf (booked p.conf ps ps.length) p.conf.cells.length ++ (if p.head = true then hrL p.conf (booked p.conf ps ps.length) ps p.conf.regions.toNat else [])
/-- A placement that fits. -/
def FitP (c : Conf) (ps : List Plc) : Prop := ps.length = c.tens.length ∧ ∀ x, x ∈ ps → PlcOk c x
theorem frz_fdr {H : VHeap} {bf vf bo : Nat} {p : Prob} {ps : List Plc} {B : List Brk} {ov : DV} (h1 : hg H bf = ⟨vf, 0, true, [fdr p ps ov]⟩) (h2 : SlB H bo 5 (B.map eB) ov) (n : Nat) : frzD H (n + 3) (.mp bf vf 0 0) = some (.rp (fdr p ps (.sl (B.map eB)))) := by
  have h3 : frzD H (n + 2) ov = some (.sl (B.map eB)) := h2.frz (by decide) (closed_eB B) (n + 1)
  simp -implicitDefEqProofs only [go_sem, h1, h3]
theorem partial_ok (p : Prob) (hc : ConfOk p.conf) (ps : List Plc) (hfit : FitP p.conf ps) (B : List Brk) (hB : B.length ≤ 100) (H : VHeap) (b bf vf bo : Nat) (ov : DV) (hb : H.length ≤ b) (h1 : hg H bf = ⟨vf, 0, true, [fdr p ps ov]⟩) (h2 : SlB H bo 5 (B.map eB) ov) (h3 : bo ≠ bf) (h4 : bo < b) (h5 : bf < b) :
    OkF (F PP shF 105 [.mp bf vf 0 0] H b) (FndTo H bf vf bo p ps b B (B ++ partL p ps)) := by
  refine F_ok PP105 rfl ⟨by simp [ir105], by simpa using hb⟩ ?_
  have ht := hc.t1
  have hps := hfit.1
  have hc7 := hc.c1
  have n1 : ¬ b + 1 = bf := by omega
  have n2 : ¬ b + 2 = bf := by omega
  have hin : ∀ i : Nat, i < ps.length → ∀ k, two2 (plc ps i) k ≠ -1 → 0 ≤ two2 (plc ps i) k ∧ two2 (plc ps i) k < p.conf.cells.length := by
    intro i hi k hk
    have hx := hfit.2 _ (List.mem_of_getElem? (getD_at (l := ps) (i := i) (d := ⟨0, 0⟩) hi))
    have := hx.h0; have := hx.h1; have := hx.s0; have := hx.s1
    unfold two2 at hk ⊢
    unfold plc at hk ⊢
    split <;> rename_i hk0
    · rw [if_pos hk0] at hk; omega
    · rw [if_neg hk0] at hk; omega
  -- the heap at the first call
  have hS0 : FndS H bf vf bo p ps b 31 B H := .start h1 h2 h3 h4 h5
  have hS1 : FndS H bf vf bo p ps b 31 B (hs (hs (hs H (b + 1) ⟨(hg H (b + 1)).ver + 1, 0, true, [[.mp bf vf 0 0]]⟩) (b + 2) ⟨(hg H (b + 2)).ver + 1, 0, true, [[dI 0, .lit (.slice none 0 0), .lit (.slice none 0 0), .lit (.slice none 0 0), .lit (.slice none 0 0), .lit (.slice none 0 0), .lit (.slice none 0 0), dI 0, dI 0, dI 0]]⟩) (b + 2) ⟨(hg H (b + 2)).ver + 1, 0, true, [eK p.conf]⟩) := ((hS0.own (by omega) (by omega)).own (by omega) (by omega)).own (by omega) (by omega)
  generalize hv1 : (hg H (b + 1)).ver + 1 = v1 at hS1
  generalize hv2 : (hg H (b + 2)).ver + 1 = v2 at hS1
  -- what the closures see, in a callee
  have see : ∀ (Hc : VHeap) (B0 : List Brk), hg Hc (b + 1) = ⟨v1, 0, true, [[.mp bf vf 0 0]]⟩ → hg Hc (b + 2) = ⟨v2, 0, true, [eK p.conf]⟩ → ∀ (bo' b1 : Nat), (bo' < b ∨ b + 31 ≤ bo') → b + 31 ≤ b1 → ∀ (H' : VHeap) (nt : Nat) (B' : List Brk), FndS Hc bf vf bo' p ps b1 nt B' H' →
      (∃ o, frzD H' 6 (.mp (b + 1) v1 0 0) = some (.rp [.rp (fdr p ps o)])) ∧ frzD H' 6 (.mp (b + 2) v2 0 0) = some (.rp (eK p.conf)) := by
    intro Hc B0 k1 k2 bo' b1 hbo' hb1 H' nt B' hF
    have e1 := hF.fr (b + 1) (by omega) (by omega) (by omega)
    have e2 := hF.fr (b + 2) (by omega) (by omega) (by omega)
    rw [k1] at e1
    rw [k2] at e2
    obtain ⟨bo2, ov2, a1, a2, _⟩ := hF.ex
    have f1 := frz_fdr a1 a2 2
    refine ⟨⟨.sl (B'.map eB), ?_⟩, ?_⟩
    · rw [frz_mp, e1]
      simp only [VB.at_, and_self, ↓reduceIte, List.getElem?_cons_zero, Option.bind_some, List.drop_zero, mapO, f1, Option.map_some, Nat.zero_le]
    · rw [frz_mp, e2]
      simp only [VB.at_, and_self, ↓reduceIte, List.getElem?_cons_zero, Option.bind_some, List.drop_zero, Nat.zero_le]
      rfl
  have ck1 : ∀ (Hc : VHeap), hg Hc (b + 1) = ⟨v1, 0, true, [[.mp bf vf 0 0]]⟩ → hg Hc (b + 2) = ⟨v2, 0, true, [eK p.conf]⟩ → ∀ (bo' b1 : Nat), (bo' < b ∨ b + 31 ≤ bo') → b + 31 ≤ b1 → ChkOk 117 [.mp (b + 1) v1 0 0] Hc bf vf bo' p ps b1 (fun _ n => bit p.cells n) (fun _ n => 0 ≤ n ∧ n < p.conf.cells.length) := by
    intro Hc k1 k2 bo' b1 hbo' hb1 H' nt B' hF
    obtain ⟨⟨o, f1⟩, _⟩ := see Hc B k1 k2 bo' b1 hbo' hb1 H' nt B' hF
    exact ⟨[.rp [.rp (fdr p ps o)]], by simp only [mapO, f1, Option.bind_some, Option.map_some], fun i n hn => FV_partial1 p ps o i n hn.1 (by omega)⟩
  have ck2 : ∀ (Hc : VHeap), hg Hc (b + 1) = ⟨v1, 0, true, [[.mp bf vf 0 0]]⟩ → hg Hc (b + 2) = ⟨v2, 0, true, [eK p.conf]⟩ → ∀ (bo' b1 : Nat), (bo' < b ∨ b + 31 ≤ bo') → b + 31 ≤ b1 → ChkOk 118 [.mp (b + 2) v2 0 0] Hc bf vf bo' p ps b1 (fun i n => mayB p.conf i n) (fun _ n => 0 ≤ n ∧ n < p.conf.cells.length) := by
    intro Hc k1 k2 bo' b1 hbo' hb1 H' nt B' hF
    obtain ⟨_, f2⟩ := see Hc B k1 k2 bo' b1 hbo' hb1 H' nt B' hF
    exact ⟨[.rp (eK p.conf)], by simp only [mapO, f2, Option.bind_some, Option.map_some], fun i n hn => FV_partial2 p.conf hc i n⟩
  have cl3 : ∀ (Hc : VHeap), hg Hc (b + 1) = ⟨v1, 0, true, [[.mp bf vf 0 0]]⟩ → hg Hc (b + 2) = ⟨v2, 0, true, [eK p.conf]⟩ → ∀ (bo' b1 : Nat), (bo' < b ∨ b + 31 ≤ bo') → b + 31 ≤ b1 → ClsOk 121 [.mp (b + 2) v2 0 0, .mp (b + 1) v1 0 0] Hc bf vf bo' p ps b1 (grpB p.conf ps) := by
    intro Hc k1 k2 bo' b1 hbo' hb1 H' nt B' hF
    obtain ⟨⟨o, f1⟩, f2⟩ := see Hc B k1 k2 bo' b1 hbo' hb1 H' nt B' hF
    exact ⟨[.rp (eK p.conf), .rp [.rp (fdr p ps o)]], by simp only [mapO, f1, f2, Option.bind_some, Option.map_some], fun i k hi hk _ _ => FV_partial3 p hc.lens ps o i k hi (by omega) (by omega) (by omega)⟩
  have cl4 : ∀ (Hc : VHeap), hg Hc (b + 1) = ⟨v1, 0, true, [[.mp bf vf 0 0]]⟩ → hg Hc (b + 2) = ⟨v2, 0, true, [eK p.conf]⟩ → ∀ (bo' b1 : Nat), (bo' < b ∨ b + 31 ≤ bo') → b + 31 ≤ b1 → ClsOk 122 [.mp (b + 2) v2 0 0, .mp (b + 1) v1 0 0] Hc bf vf bo' p ps b1 (nsyB p.conf ps) := by
    intro Hc k1 k2 bo' b1 hbo' hb1 H' nt B' hF
    obtain ⟨⟨o, f1⟩, f2⟩ := see Hc B k1 k2 bo' b1 hbo' hb1 H' nt B' hF
    exact ⟨[.rp (eK p.conf), .rp [.rp (fdr p ps o)]], by simp only [mapO, f1, f2, Option.bind_some, Option.map_some], fun i k hi hk _ _ => FV_partial4 p ps o i k hi (by omega) (by omega) (by omega)⟩
  have m1 : hg (hs (hs (hs H (b + 1) ⟨v1, 0, true, [[.mp bf vf 0 0]]⟩) (b + 2) ⟨v2, 0, true, [[dI 0, .lit (.slice none 0 0), .lit (.slice none 0 0), .lit (.slice none 0 0), .lit (.slice none 0 0), .lit (.slice none 0 0), .lit (.slice none 0 0), dI 0, dI 0, dI 0]]⟩) (b + 2) ⟨v2, 0, true, [eK p.conf]⟩) (b + 1) = ⟨v1, 0, true, [[.mp bf vf 0 0]]⟩ := by rw [hg_hs, if_neg (by omega), hg_hs, if_neg (by omega), hg_hs, if_pos rfl]
  have m2 : hg (hs (hs (hs H (b + 1) ⟨v1, 0, true, [[.mp bf vf 0 0]]⟩) (b + 2) ⟨v2, 0, true, [[dI 0, .lit (.slice none 0 0), .lit (.slice none 0 0), .lit (.slice none 0 0), .lit (.slice none 0 0), .lit (.slice none 0 0), .lit (.slice none 0 0), dI 0, dI 0, dI 0]]⟩) (b + 2) ⟨v2, 0, true, [eK p.conf]⟩) (b + 2) = ⟨v2, 0, true, [eK p.conf]⟩ := by rw [hg_hs, if_pos rfl]
  have A1 := fun b1 hb1 hb2 => hS1.call (g := 116) (args := [.mp bf vf 0 0, dI 3, .fn 117 [.mp (b + 1) v1 0 0]]) (b1 := b1) hb1 hb2 (fun bo' ov' a1 a2 a3 a4 a5 a6 => one_ok p ps B 3 117 _ _ _ rfl (by omega) (by omega) (fun i hi k hk => hin i hi k hk) _ b1 bf vf bo' ov' hb1 (ck1 _ m1 m2 bo' b1 a6 hb2) a1 a2 a3 a4 a5)
  have R1 := fun b1 hb1 hb2 => (A1 b1 hb1 hb2).1
  simp -implicitDefEqProofs only [go_sem, ir105, h1, n1, n2, hv1, hv2, eK, R1]
  obtain ⟨_, S2, fr2⟩ := A1 (max (max (max (max (List.length H) (b + 1 + 1)) (b + 2 + 1)) (b + 2 + 1)) (b + 31)) (by simp only [hs_len]; omega) (by omega)
  have y1 := fr2 (b + 1) (by omega) (by omega)
  have y2 := fr2 (b + 2) (by omega) (by omega)
  rw [m1] at y1
  rw [m2] at y2
  clear A1 R1 fr2 m1 m2 hS1
  generalize FH 116 _ _ _ = H2 at *
  have l1 := oneL_len 3 (fun _ n => bit p.cells n) ps ps.length
  have A2 := fun b1 hb1 hb2 => S2.call (g := 116) (args := [.mp bf vf 0 0, dI 4, .fn 118 [.mp (b + 2) v2 0 0]]) (b1 := b1) hb1 hb2 (fun bo' ov' a1 a2 a3 a4 a5 a6 => one_ok p ps _ 4 118 _ _ _ rfl (by simp only [List.length_append]; omega) (by omega) (fun i hi k hk => hin i hi k hk) _ b1 bf vf bo' ov' hb1 (ck2 _ y1 y2 bo' b1 a6 hb2) a1 a2 a3 a4 a5)
  have R2 := fun b1 hb1 hb2 => (A2 b1 hb1 hb2).1
  simp -implicitDefEqProofs only [go_sem, y1, y2, R2]
  obtain ⟨_, S3, fr3⟩ := A2 (max (List.length H2) (b + 31)) (by omega) (by omega)
  have z1 := fr3 (b + 1) (by omega) (by omega)
  have z2 := fr3 (b + 2) (by omega) (by omega)
  rw [y1] at z1
  rw [y2] at z2
  clear A2 R2 fr3 y1 y2 S2
  generalize FH 116 _ _ _ = H3 at *
  have y1 := z1
  have y2 := z2
  clear z1 z2
  have l2 := oneL_len 4 (fun i n => mayB p.conf i n) ps ps.length
  have A3 := fun b1 hb1 hb2 => S3.call (g := 119) (args := [.mp bf vf 0 0]) (b1 := b1) hb1 hb2 (fun bo' ov' a1 a2 a3 a4 a5 a6 => fapart_ok p hc ps _ (by simp only [List.length_append]; omega) (by omega) _ b1 bf vf bo' ov' hb1 a1 a2 a3 a4 a5)
  have R3 := fun b1 hb1 hb2 => (A3 b1 hb1 hb2).1
  simp -implicitDefEqProofs only [go_sem, y1, y2, R3]
  obtain ⟨_, S4, fr4⟩ := A3 (max (List.length H3) (b + 31)) (by omega) (by omega)
  have z1 := fr4 (b + 1) (by omega) (by omega)
  have z2 := fr4 (b + 2) (by omega) (by omega)
  rw [y1] at z1
  rw [y2] at z2
  clear A3 R3 fr4 y1 y2 S3
  generalize FH 119 _ _ _ = H4 at *
  have y1 := z1
  have y2 := z2
  clear z1 z2
  have l3 := apL_len p.conf ps ps.length
  have A4 := fun b1 hb1 hb2 => S4.call (g := 120) (args := [.mp bf vf 0 0, dI 6, .fn 121 [.mp (b + 2) v2 0 0, .mp (b + 1) v1 0 0]]) (b1 := b1) hb1 hb2 (fun bo' ov' a1 a2 a3 a4 a5 a6 => pairs_ok p ps _ 6 121 _ _ rfl (by simp only [List.length_append]; omega) (by omega) _ b1 bf vf bo' ov' hb1 (cl3 _ y1 y2 bo' b1 a6 hb2) a1 a2 a3 a4 a5)
  have R4 := fun b1 hb1 hb2 => (A4 b1 hb1 hb2).1
  simp -implicitDefEqProofs only [go_sem, y1, y2, R4]
  obtain ⟨_, S5, fr5⟩ := A4 (max (List.length H4) (b + 31)) (by omega) (by omega)
  have z1 := fr5 (b + 1) (by omega) (by omega)
  have z2 := fr5 (b + 2) (by omega) (by omega)
  rw [y1] at z1
  rw [y2] at z2
  clear A4 R4 fr5 y1 y2 S4
  generalize FH 120 _ _ _ = H5 at *
  have y1 := z1
  have y2 := z2
  clear z1 z2
  have l4 := prL_len 6 (grpB p.conf ps) ps ps.length
  have hsq : ps.length * ps.length ≤ 5 * 5 := Nat.mul_le_mul (by omega) (by omega)
  have A5 := fun b1 hb1 hb2 => S5.call (g := 120) (args := [.mp bf vf 0 0, dI 7, .fn 122 [.mp (b + 2) v2 0 0, .mp (b + 1) v1 0 0]]) (b1 := b1) hb1 hb2 (fun bo' ov' a1 a2 a3 a4 a5 a6 => pairs_ok p ps _ 7 122 _ _ rfl (by simp only [List.length_append]; omega) (by omega) _ b1 bf vf bo' ov' hb1 (cl4 _ y1 y2 bo' b1 a6 hb2) a1 a2 a3 a4 a5)
  have R5 := fun b1 hb1 hb2 => (A5 b1 hb1 hb2).1
  simp -implicitDefEqProofs only [go_sem, y1, y2, R5]
  obtain ⟨_, S6, fr6⟩ := A5 (max (List.length H5) (b + 31)) (by omega) (by omega)
  have z1 := fr6 (b + 1) (by omega) (by omega)
  have z2 := fr6 (b + 2) (by omega) (by omega)
  rw [y1] at z1
  rw [y2] at z2
  clear A5 R5 fr6 y1 y2 S5
  generalize FH 120 _ _ _ = H6 at *
  have y1 := z1
  have y2 := z2
  clear z1 z2
  have l5 := prL_len 7 (nsyB p.conf ps) ps ps.length
  have A6 := fun b1 hb1 hb2 => S6.call (g := 123) (args := [.mp bf vf 0 0]) (b1 := b1) hb1 hb2 (fun bo' ov' a1 a2 a3 a4 a5 a6 => capacity_ok p hc ps hps _ (by simp only [List.length_append]; omega) _ b1 bf vf bo' ov' hb1 a1 a2 a3 a4 a5)
  have R6 := fun b1 hb1 hb2 => (A6 b1 hb1 hb2).1
  simp -implicitDefEqProofs only [go_sem, y1, y2, R6]
  obtain ⟨_, S7, fr7⟩ := A6 (max (List.length H6) (b + 31)) (by omega) (by omega)
  have z1 := fr7 (b + 1) (by omega) (by omega)
  have z2 := fr7 (b + 2) (by omega) (by omega)
  rw [y1] at z1
  rw [y2] at z2
  clear A6 R6 fr7 y1 y2 S6
  generalize FH 123 _ _ _ = H7 at *
  have y1 := z1
  have y2 := z2
  clear z1 z2
  have l6 := cpL_len p.conf (booked p.conf ps ps.length) p.conf.cells.length
  obtain ⟨bo7, ov7, hb7, _⟩ := S7.ex
  cases hh : p.head with
  | false =>
    simp -implicitDefEqProofs only [go_sem, y1, y2, hb7, hh]
    rw [show partL p ps = oneL 3 (fun _ n => bit p.cells n) ps ps.length ++ oneL 4 (fun i n => mayB p.conf i n) ps ps.length ++ apL p.conf ps ps.length ++ prL 6 (grpB p.conf ps) ps ps.length ++ prL 7 (nsyB p.conf ps) ps ps.length ++ cpL p.conf (booked p.conf ps ps.length) p.conf.cells.length from by unfold partL; rw [hh]; simp]
    simp only [← List.append_assoc]
    exact S7.to
  | true =>
    have A7 := fun b1 hb1 hb2 => S7.call (g := 124) (args := [.mp bf vf 0 0]) (b1 := b1) hb1 hb2 (fun bo' ov' a1 a2 a3 a4 a5 a6 => headroom_ok p hc ps hps _ (by simp only [List.length_append]; omega) _ b1 bf vf bo' ov' hb1 a1 a2 a3 a4 a5)
    have R7 := fun b1 hb1 hb2 => (A7 b1 hb1 hb2).1
    simp -implicitDefEqProofs only [go_sem, y1, y2, hb7, hh, R7]
    obtain ⟨_, S8, _⟩ := A7 (max (List.length H7) (b + 31)) (by omega) (by omega)
    rw [show partL p ps = oneL 3 (fun _ n => bit p.cells n) ps ps.length ++ oneL 4 (fun i n => mayB p.conf i n) ps ps.length ++ apL p.conf ps ps.length ++ prL 6 (grpB p.conf ps) ps ps.length ++ prL 7 (nsyB p.conf ps) ps ps.length ++ cpL p.conf (booked p.conf ps ps.length) p.conf.cells.length ++ hrL p.conf (booked p.conf ps ps.length) ps p.conf.regions.toNat from by unfold partL; rw [hh]; simp]
    simp only [← List.append_assoc]
    exact S8.to
theorem partL_len {p : Prob} (hc : ConfOk p.conf) {ps : List Plc} (hfit : FitP p.conf ps) : (partL p ps).length ≤ 200 := by
  have ht5 := hc.t1
  have hc7 := hc.c1
  have hpt := hfit.1
  have hr0 := hc.r0
  have hr1 := hc.r1
  have l1 := oneL_len 3 (fun _ n => bit p.cells n) ps ps.length
  have l2 := oneL_len 4 (fun i n => mayB p.conf i n) ps ps.length
  have l3 := apL_len p.conf ps ps.length
  have l4 := prL_len 6 (grpB p.conf ps) ps ps.length
  have l5 := prL_len 7 (nsyB p.conf ps) ps ps.length
  have l6 := cpL_len p.conf (booked p.conf ps ps.length) p.conf.cells.length
  have l7 := hrL_len p.conf (booked p.conf ps ps.length) ps p.conf.regions.toNat
  have hsq : ps.length * ps.length ≤ 5 * 5 := Nat.mul_le_mul (by omega) (by omega)
  have hs2 : p.conf.regions.toNat * p.conf.cells.length ≤ 3 * 7 := Nat.mul_le_mul (by omega) hc7
  unfold partL
  simp only [List.length_append]
  split <;> simp <;> omega
def inB (n lo hi : Int) : Bool := decide (lo ≤ n) && decide (n ≤ hi)
theorem FV_tb (n lo hi : Int) : FV PP shF 66 [dI n, dI lo, dI hi] = some (dB (inB n lo hi)) := FV_tbetween n lo hi
def limB (c : Conf) : Bool := inB c.regions 1 4 && inB (c.zones.length : Nat) 1 8 && inB (c.cells.length : Nat) 1 16 && inB (c.vers.length : Nat) 1 30 && inB (c.reps.length : Nat) 1 5 && inB (c.obs.length : Nat) 1 9 && decide ((c.tens.length : Int) ≤ 32)
theorem FV_sized (c : Conf) : FV PP shF 63 [.agg (eK c)] = some (dB (limB c)) := by
  refine FV_ok (F_ok PP63 rfl ⟨by simp [ir63], by simp⟩ ?_)
  unfold limB
  have B1 := FV_tb c.regions 1 4
  have B2 := FV_tb (c.zones.length : Nat) 1 8
  have B3 := FV_tb (c.cells.length : Nat) 1 16
  have B4 := FV_tb (c.vers.length : Nat) 1 30
  have B5 := FV_tb (c.reps.length : Nat) 1 5
  have B6 := FV_tb (c.obs.length : Nat) 1 9
  generalize inB c.regions 1 4 = b1 at *
  generalize inB (c.zones.length : Nat) 1 8 = b2 at *
  generalize inB (c.cells.length : Nat) 1 16 = b3 at *
  generalize inB (c.vers.length : Nat) 1 30 = b4 at *
  generalize inB (c.reps.length : Nat) 1 5 = b5 at *
  generalize inB (c.obs.length : Nat) 1 9 = b6 at *
  cases b1
  · simp -implicitDefEqProofs only [go_sem, ir63, eK, vpS B1 rfl]
  cases b2
  · simp -implicitDefEqProofs only [go_sem, ir63, eK, vpS B1 rfl, vpS B2 rfl]
  cases b3
  · simp -implicitDefEqProofs only [go_sem, ir63, eK, vpS B1 rfl, vpS B2 rfl, vpS B3 rfl]
  cases b4
  · simp -implicitDefEqProofs only [go_sem, ir63, eK, vpS B1 rfl, vpS B2 rfl, vpS B3 rfl, vpS B4 rfl]
  cases b5
  · simp -implicitDefEqProofs only [go_sem, ir63, eK, vpS B1 rfl, vpS B2 rfl, vpS B3 rfl, vpS B4 rfl, vpS B5 rfl]
  cases b6
  · simp -implicitDefEqProofs only [go_sem, ir63, eK, vpS B1 rfl, vpS B2 rfl, vpS B3 rfl, vpS B4 rfl, vpS B5 rfl, vpS B6 rfl]
  simp -implicitDefEqProofs only [go_sem, ir63, eK, vpS B1 rfl, vpS B2 rfl, vpS B3 rfl, vpS B4 rfl, vpS B5 rfl, vpS B6 rfl]
def allN (q : Nat → Bool) : Nat → Bool
  | 0 => true
  | k + 1 => allN q k && q k
theorem allN_false {q : Nat → Bool} {k : Nat} (h : q k = false) : ∀ n, k < n → allN q n = false
  | n + 1, hn => by
    simp only [allN]
    by_cases hk : k = n
    · rw [← hk, h, Bool.and_false]
    · rw [allN_false h n (by omega), Bool.false_and]
theorem allN_next {q : Nat → Bool} {k : Nat} (h : allN q k = true) (hq : q k = true) : allN q (k + 1) = true := by simp only [allN, h, hq, Bool.and_self]
def zonesB (c : Conf) (l : List Int) : Bool := allN (fun i => inB (l.getD i 0) 0 ((c.zones.length : Int) - 1)) l.length
def Qb (b : Bool) (t : Nat) (e : Ex) (w : VSt) : Prop := (e = .exit 0 ∧ b = true) ∨ (e = .ret ∧ b = false ∧ gt .bad w.E t = dB false)
def L79 (c : Conf) (l : List Int) (k : Nat) (w : VSt) : Prop := gt .bad w.E 7 = dL l ∧ gt .bad w.E 8 = dI (l.length : Nat) ∧ gt .bad w.E 2 = .mp 2 1 0 0 ∧ hg w.H 2 = ⟨1, 0, true, [eK c]⟩ ∧ gt .bad w.E 9 = dI (k : Nat) ∧ k ≤ l.length ∧ allN (fun i => inB (l.getD i 0) 0 ((c.zones.length : Int) - 1)) k = true
end Go.Proofs.Cp
