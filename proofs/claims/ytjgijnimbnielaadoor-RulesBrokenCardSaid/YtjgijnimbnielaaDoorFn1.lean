/- What the functions answer (part 1). -/
import Derived.Test.YtjgijnimbnielaaDoorFn0
set_option linter.unusedSimpArgs false
set_option linter.unusedVariables false
set_option maxRecDepth 100000
namespace Go.Proofs.Cp
open Go
theorem partial_ok (p : Prob) (hc : ConfOk p.conf) (ps : List Plc) (hfit : FitP p.conf ps) (B : List Brk) (hB : B.length ≤ 100) (H : VHeap) (b bf vf bo : Nat) (ov : DV) (hb : H.length ≤ b) (h1 : hg H bf = ⟨vf, 0, true, [fdr p ps ov]⟩) (h2 : SlB H bo 5 (B.map eB) ov) (h3 : bo ≠ bf) (h4 : bo < b) (h5 : bf < b) :
    OkF (F PP shF 105 [.mp bf vf 0 0] H b) (FndTo H bf vf bo p ps b B (B ++ partL p ps)) := by
  refine F_ok PP105 rfl ⟨by simp [ir105], by simpa using hb⟩ ?_
  have ht := hc.t1
  have hps := hfit.1
  have hc7 := hc.c1
  have n1 : ¬ b + 1 = bf := by omega
  have n2 : ¬ b + 2 = bf := by omega
  have hin : ∀ i : Nat, i < ps.length → ∀ k, two2 (plc ps i) k ≠ -1 → 0 ≤ two2 (plc ps i) k ∧ two2 (plc ps i) k < p.conf.cells.length := by
    intro i hi k hk
    have hx := hfit.2 _ (List.mem_of_getElem? (getD_at (l := ps) (i := i) (d := ⟨0, 0⟩) hi))
    have := hx.h0; have := hx.h1; have := hx.s0; have := hx.s1
    unfold two2 at hk ⊢
    unfold plc at hk ⊢
    split <;> rename_i hk0
    · rw [if_pos hk0] at hk; omega
    · rw [if_neg hk0] at hk; omega
  -- the heap at the first call
  have hS0 : FndS H bf vf bo p ps b 31 B H := .start h1 h2 h3 h4 h5
  have hS1 : FndS H bf vf bo p ps b 31 B (hs (hs (hs H (b + 1) ⟨(hg H (b + 1)).ver + 1, 0, true, [[.mp bf vf 0 0]]⟩) (b + 2) ⟨(hg H (b + 2)).ver + 1, 0, true, [[dI 0, .lit (.slice none 0 0), .lit (.slice none 0 0), .lit (.slice none 0 0), .lit (.slice none 0 0), .lit (.slice none 0 0), .lit (.slice none 0 0), dI 0, dI 0, dI 0]]⟩) (b + 2) ⟨(hg H (b + 2)).ver + 1, 0, true, [eK p.conf]⟩) := ((hS0.own (by omega) (by omega)).own (by omega) (by omega)).own (by omega) (by omega)
  generalize hv1 : (hg H (b + 1)).ver + 1 = v1 at hS1
  generalize hv2 : (hg H (b + 2)).ver + 1 = v2 at hS1
  -- what the closures see, in a callee
  have see : ∀ (Hc : VHeap) (B0 : List Brk), hg Hc (b + 1) = ⟨v1, 0, true, [[.mp bf vf 0 0]]⟩ → hg Hc (b + 2) = ⟨v2, 0, true, [eK p.conf]⟩ → ∀ (bo' b1 : Nat), (bo' < b ∨ b + 31 ≤ bo') → b + 31 ≤ b1 → ∀ (H' : VHeap) (nt : Nat) (B' : List Brk), FndS Hc bf vf bo' p ps b1 nt B' H' →
      (∃ o, frzD H' 6 (.mp (b + 1) v1 0 0) = some (.rp [.rp (fdr p ps o)])) ∧ frzD H' 6 (.mp (b + 2) v2 0 0) = some (.rp (eK p.conf)) := by
    intro Hc B0 k1 k2 bo' b1 hbo' hb1 H' nt B' hF
    have e1 := hF.fr (b + 1) (by omega) (by omega) (by omega)
    have e2 := hF.fr (b + 2) (by omega) (by omega) (by omega)
    rw [k1] at e1
    rw [k2] at e2
    obtain ⟨bo2, ov2, a1, a2, _⟩ := hF.ex
    have f1 := frz_fdr a1 a2 2
    refine ⟨⟨.sl (B'.map eB), ?_⟩, ?_⟩
    · rw [frz_mp, e1]
      simp only [VB.at_, and_self, ↓reduceIte, List.getElem?_cons_zero, Option.bind_some, List.drop_zero, mapO, f1, Option.map_some, Nat.zero_le]
    · rw [frz_mp, e2]
      simp only [VB.at_, and_self, ↓reduceIte, List.getElem?_cons_zero, Option.bind_some, List.drop_zero, Nat.zero_le]
      rfl
  have ck1 : ∀ (Hc : VHeap), hg Hc (b + 1) = ⟨v1, 0, true, [[.mp bf vf 0 0]]⟩ → hg Hc (b + 2) = ⟨v2, 0, true, [eK p.conf]⟩ → ∀ (bo' b1 : Nat), (bo' < b ∨ b + 31 ≤ bo') → b + 31 ≤ b1 → ChkOk 117 [.mp (b + 1) v1 0 0] Hc bf vf bo' p ps b1 (fun _ n => bit p.cells n) (fun _ n => 0 ≤ n ∧ n < p.conf.cells.length) := by
    intro Hc k1 k2 bo' b1 hbo' hb1 H' nt B' hF
    obtain ⟨⟨o, f1⟩, _⟩ := see Hc B k1 k2 bo' b1 hbo' hb1 H' nt B' hF
    exact ⟨[.rp [.rp (fdr p ps o)]], by simp only [mapO, f1, Option.bind_some, Option.map_some], fun i n hn => FV_partial1 p ps o i n hn.1 (by omega)⟩
  have ck2 : ∀ (Hc : VHeap), hg Hc (b + 1) = ⟨v1, 0, true, [[.mp bf vf 0 0]]⟩ → hg Hc (b + 2) = ⟨v2, 0, true, [eK p.conf]⟩ → ∀ (bo' b1 : Nat), (bo' < b ∨ b + 31 ≤ bo') → b + 31 ≤ b1 → ChkOk 118 [.mp (b + 2) v2 0 0] Hc bf vf bo' p ps b1 (fun i n => mayB p.conf i n) (fun _ n => 0 ≤ n ∧ n < p.conf.cells.length) := by
    intro Hc k1 k2 bo' b1 hbo' hb1 H' nt B' hF
    obtain ⟨_, f2⟩ := see Hc B k1 k2 bo' b1 hbo' hb1 H' nt B' hF
    exact ⟨[.rp (eK p.conf)], by simp only [mapO, f2, Option.bind_some, Option.map_some], fun i n hn => FV_partial2 p.conf hc i n⟩
  have cl3 : ∀ (Hc : VHeap), hg Hc (b + 1) = ⟨v1, 0, true, [[.mp bf vf 0 0]]⟩ → hg Hc (b + 2) = ⟨v2, 0, true, [eK p.conf]⟩ → ∀ (bo' b1 : Nat), (bo' < b ∨ b + 31 ≤ bo') → b + 31 ≤ b1 → ClsOk 121 [.mp (b + 2) v2 0 0, .mp (b + 1) v1 0 0] Hc bf vf bo' p ps b1 (grpB p.conf ps) := by
    intro Hc k1 k2 bo' b1 hbo' hb1 H' nt B' hF
    obtain ⟨⟨o, f1⟩, f2⟩ := see Hc B k1 k2 bo' b1 hbo' hb1 H' nt B' hF
    exact ⟨[.rp (eK p.conf), .rp [.rp (fdr p ps o)]], by simp only [mapO, f1, f2, Option.bind_some, Option.map_some], fun i k hi hk _ _ => FV_partial3 p hc.lens ps o i k hi (by omega) (by omega) (by omega)⟩
  have cl4 : ∀ (Hc : VHeap), hg Hc (b + 1) = ⟨v1, 0, true, [[.mp bf vf 0 0]]⟩ → hg Hc (b + 2) = ⟨v2, 0, true, [eK p.conf]⟩ → ∀ (bo' b1 : Nat), (bo' < b ∨ b + 31 ≤ bo') → b + 31 ≤ b1 → ClsOk 122 [.mp (b + 2) v2 0 0, .mp (b + 1) v1 0 0] Hc bf vf bo' p ps b1 (nsyB p.conf ps) := by
    intro Hc k1 k2 bo' b1 hbo' hb1 H' nt B' hF
    obtain ⟨⟨o, f1⟩, f2⟩ := see Hc B k1 k2 bo' b1 hbo' hb1 H' nt B' hF
    exact ⟨[.rp (eK p.conf), .rp [.rp (fdr p ps o)]], by simp only [mapO, f1, f2, Option.bind_some, Option.map_some], fun i k hi hk _ _ => FV_partial4 p ps o i k hi (by omega) (by omega) (by omega)⟩
  have m1 : hg (hs (hs (hs H (b + 1) ⟨v1, 0, true, [[.mp bf vf 0 0]]⟩) (b + 2) ⟨v2, 0, true, [[dI 0, .lit (.slice none 0 0), .lit (.slice none 0 0), .lit (.slice none 0 0), .lit (.slice none 0 0), .lit (.slice none 0 0), .lit (.slice none 0 0), dI 0, dI 0, dI 0]]⟩) (b + 2) ⟨v2, 0, true, [eK p.conf]⟩) (b + 1) = ⟨v1, 0, true, [[.mp bf vf 0 0]]⟩ := by rw [hg_hs, if_neg (by omega), hg_hs, if_neg (by omega), hg_hs, if_pos rfl]
  have m2 : hg (hs (hs (hs H (b + 1) ⟨v1, 0, true, [[.mp bf vf 0 0]]⟩) (b + 2) ⟨v2, 0, true, [[dI 0, .lit (.slice none 0 0), .lit (.slice none 0 0), .lit (.slice none 0 0), .lit (.slice none 0 0), .lit (.slice none 0 0), .lit (.slice none 0 0), dI 0, dI 0, dI 0]]⟩) (b + 2) ⟨v2, 0, true, [eK p.conf]⟩) (b + 2) = ⟨v2, 0, true, [eK p.conf]⟩ := by rw [hg_hs, if_pos rfl]
  have A1 := fun b1 hb1 hb2 => hS1.call (g := 116) (args := [.mp bf vf 0 0, dI 3, .fn 117 [.mp (b + 1) v1 0 0]]) (b1 := b1) hb1 hb2 (fun bo' ov' a1 a2 a3 a4 a5 a6 => one_ok p ps B 3 117 _ _ _ rfl (by omega) (by omega) (fun i hi k hk => hin i hi k hk) _ b1 bf vf bo' ov' hb1 (ck1 _ m1 m2 bo' b1 a6 hb2) a1 a2 a3 a4 a5)
  have R1 := fun b1 hb1 hb2 => (A1 b1 hb1 hb2).1
  simp -implicitDefEqProofs only [go_sem, ir105, h1, n1, n2, hv1, hv2, eK, R1]
  obtain ⟨_, S2, fr2⟩ := A1 (max (max (max (max (List.length H) (b + 1 + 1)) (b + 2 + 1)) (b + 2 + 1)) (b + 31)) (by simp only [hs_len]; omega) (by omega)
  have y1 := fr2 (b + 1) (by omega) (by omega)
  have y2 := fr2 (b + 2) (by omega) (by omega)
  rw [m1] at y1
  rw [m2] at y2
  clear A1 R1 fr2 m1 m2 hS1
  generalize FH 116 _ _ _ = H2 at *
  have l1 := oneL_len 3 (fun _ n => bit p.cells n) ps ps.length
  have A2 := fun b1 hb1 hb2 => S2.call (g := 116) (args := [.mp bf vf 0 0, dI 4, .fn 118 [.mp (b + 2) v2 0 0]]) (b1 := b1) hb1 hb2 (fun bo' ov' a1 a2 a3 a4 a5 a6 => one_ok p ps _ 4 118 _ _ _ rfl (by simp only [List.length_append]; omega) (by omega) (fun i hi k hk => hin i hi k hk) _ b1 bf vf bo' ov' hb1 (ck2 _ y1 y2 bo' b1 a6 hb2) a1 a2 a3 a4 a5)
  have R2 := fun b1 hb1 hb2 => (A2 b1 hb1 hb2).1
  simp -implicitDefEqProofs only [go_sem, y1, y2, R2]
  obtain ⟨_, S3, fr3⟩ := A2 (max (List.length H2) (b + 31)) (by omega) (by omega)
  have z1 := fr3 (b + 1) (by omega) (by omega)
  have z2 := fr3 (b + 2) (by omega) (by omega)
  rw [y1] at z1
  rw [y2] at z2
  clear A2 R2 fr3 y1 y2 S2
  generalize FH 116 _ _ _ = H3 at *
  have y1 := z1
  have y2 := z2
  clear z1 z2
  have l2 := oneL_len 4 (fun i n => mayB p.conf i n) ps ps.length
  have A3 := fun b1 hb1 hb2 => S3.call (g := 119) (args := [.mp bf vf 0 0]) (b1 := b1) hb1 hb2 (fun bo' ov' a1 a2 a3 a4 a5 a6 => fapart_ok p hc ps _ (by simp only [List.length_append]; omega) (by omega) _ b1 bf vf bo' ov' hb1 a1 a2 a3 a4 a5)
  have R3 := fun b1 hb1 hb2 => (A3 b1 hb1 hb2).1
  simp -implicitDefEqProofs only [go_sem, y1, y2, R3]
  obtain ⟨_, S4, fr4⟩ := A3 (max (List.length H3) (b + 31)) (by omega) (by omega)
  have z1 := fr4 (b + 1) (by omega) (by omega)
  have z2 := fr4 (b + 2) (by omega) (by omega)
  rw [y1] at z1
  rw [y2] at z2
  clear A3 R3 fr4 y1 y2 S3
  generalize FH 119 _ _ _ = H4 at *
  have y1 := z1
  have y2 := z2
  clear z1 z2
  have l3 := apL_len p.conf ps ps.length
  have A4 := fun b1 hb1 hb2 => S4.call (g := 120) (args := [.mp bf vf 0 0, dI 6, .fn 121 [.mp (b + 2) v2 0 0, .mp (b + 1) v1 0 0]]) (b1 := b1) hb1 hb2 (fun bo' ov' a1 a2 a3 a4 a5 a6 => pairs_ok p ps _ 6 121 _ _ rfl (by simp only [List.length_append]; omega) (by omega) _ b1 bf vf bo' ov' hb1 (cl3 _ y1 y2 bo' b1 a6 hb2) a1 a2 a3 a4 a5)
  have R4 := fun b1 hb1 hb2 => (A4 b1 hb1 hb2).1
  simp -implicitDefEqProofs only [go_sem, y1, y2, R4]
  obtain ⟨_, S5, fr5⟩ := A4 (max (List.length H4) (b + 31)) (by omega) (by omega)
  have z1 := fr5 (b + 1) (by omega) (by omega)
  have z2 := fr5 (b + 2) (by omega) (by omega)
  rw [y1] at z1
  rw [y2] at z2
  clear A4 R4 fr5 y1 y2 S4
  generalize FH 120 _ _ _ = H5 at *
  have y1 := z1
  have y2 := z2
  clear z1 z2
  have l4 := prL_len 6 (grpB p.conf ps) ps ps.length
  have hsq : ps.length * ps.length ≤ 5 * 5 := Nat.mul_le_mul (by omega) (by omega)
  have A5 := fun b1 hb1 hb2 => S5.call (g := 120) (args := [.mp bf vf 0 0, dI 7, .fn 122 [.mp (b + 2) v2 0 0, .mp (b + 1) v1 0 0]]) (b1 := b1) hb1 hb2 (fun bo' ov' a1 a2 a3 a4 a5 a6 => pairs_ok p ps _ 7 122 _ _ rfl (by simp only [List.length_append]; omega) (by omega) _ b1 bf vf bo' ov' hb1 (cl4 _ y1 y2 bo' b1 a6 hb2) a1 a2 a3 a4 a5)
  have R5 := fun b1 hb1 hb2 => (A5 b1 hb1 hb2).1
  simp -implicitDefEqProofs only [go_sem, y1, y2, R5]
  obtain ⟨_, S6, fr6⟩ := A5 (max (List.length H5) (b + 31)) (by omega) (by omega)
  have z1 := fr6 (b + 1) (by omega) (by omega)
  have z2 := fr6 (b + 2) (by omega) (by omega)
  rw [y1] at z1
  rw [y2] at z2
  clear A5 R5 fr6 y1 y2 S5
  generalize FH 120 _ _ _ = H6 at *
  have y1 := z1
  have y2 := z2
  clear z1 z2
  have l5 := prL_len 7 (nsyB p.conf ps) ps ps.length
  have A6 := fun b1 hb1 hb2 => S6.call (g := 123) (args := [.mp bf vf 0 0]) (b1 := b1) hb1 hb2 (fun bo' ov' a1 a2 a3 a4 a5 a6 => capacity_ok p hc ps hps _ (by simp only [List.length_append]; omega) _ b1 bf vf bo' ov' hb1 a1 a2 a3 a4 a5)
  have R6 := fun b1 hb1 hb2 => (A6 b1 hb1 hb2).1
  simp -implicitDefEqProofs only [go_sem, y1, y2, R6]
  obtain ⟨_, S7, fr7⟩ := A6 (max (List.length H6) (b + 31)) (by omega) (by omega)
  have z1 := fr7 (b + 1) (by omega) (by omega)
  have z2 := fr7 (b + 2) (by omega) (by omega)
  rw [y1] at z1
  rw [y2] at z2
  clear A6 R6 fr7 y1 y2 S6
  generalize FH 123 _ _ _ = H7 at *
  have y1 := z1
  have y2 := z2
  clear z1 z2
  have l6 := cpL_len p.conf (booked p.conf ps ps.length) p.conf.cells.length
  obtain ⟨bo7, ov7, hb7, _⟩ := S7.ex
  cases hh : p.head with
  | false =>
    simp -implicitDefEqProofs only [go_sem, y1, y2, hb7, hh]
    rw [show partL p ps = oneL 3 (fun _ n => bit p.cells n) ps ps.length ++ oneL 4 (fun i n => mayB p.conf i n) ps ps.length ++ apL p.conf ps ps.length ++ prL 6 (grpB p.conf ps) ps ps.length ++ prL 7 (nsyB p.conf ps) ps ps.length ++ cpL p.conf (booked p.conf ps ps.length) p.conf.cells.length from by unfold partL; rw [hh]; simp]
    simp only [← List.append_assoc]
    exact S7.to
  | true =>
    have A7 := fun b1 hb1 hb2 => S7.call (g := 124) (args := [.mp bf vf 0 0]) (b1 := b1) hb1 hb2 (fun bo' ov' a1 a2 a3 a4 a5 a6 => headroom_ok p hc ps hps _ (by simp only [List.length_append]; omega) _ b1 bf vf bo' ov' hb1 a1 a2 a3 a4 a5)
    have R7 := fun b1 hb1 hb2 => (A7 b1 hb1 hb2).1
    simp -implicitDefEqProofs only [go_sem, y1, y2, hb7, hh, R7]
    obtain ⟨_, S8, _⟩ := A7 (max (List.length H7) (b + 31)) (by omega) (by omega)
    rw [show partL p ps = oneL 3 (fun _ n => bit p.cells n) ps ps.length ++ oneL 4 (fun i n => mayB p.conf i n) ps ps.length ++ apL p.conf ps ps.length ++ prL 6 (grpB p.conf ps) ps ps.length ++ prL 7 (nsyB p.conf ps) ps ps.length ++ cpL p.conf (booked p.conf ps ps.length) p.conf.cells.length ++ hrL p.conf (booked p.conf ps ps.length) ps p.conf.regions.toNat from by unfold partL; rw [hh]; simp]
    simp only [← List.append_assoc]
    exact S8.to
theorem FV_broken (a b c d e : Int) : FV PP shF 108 [dI a, dI b, dI c, dI d, dI e] = some (.agg [dI a, dI b, dI c, dI d, dI e]) := by
  refine FV_ok (F_ok PP108 rfl ⟨by simp [ir108], by simp⟩ ?_)
  simp -implicitDefEqProofs only [go_sem, ir108]
theorem FV_region17 (p : Prob) (hc : ConfOk p.conf) (n : Int) : FV PP shF 107 [.agg (eQ p), dI n] = some (dI (regOf p.conf n)) := by
  refine FV_ok (F_ok PP107 rfl ⟨by simp [ir107], by simp⟩ ?_)
  simp -implicitDefEqProofs only [go_sem, ir107, eQ, eK, vpS (FV_rRegionOf p.conf hc n) rfl]
def hold17 (p : Prob) (r4 : Bool) (i n : Int) : Bool := if r4 = true then mayB p.conf i n else has p.cells n
def L106i (p : Prob) (ps : List Plc) (rule : Int) (r4 : Bool) (B : List Brk) (i k : Nat) (w : VSt) : Prop :=
  ∃ (v9 : Nat) (ov : DV), gt .bad w.E 1 = .sl (ps.map eP) ∧ gt .bad w.E 2 = dI rule ∧ gt .bad w.E 3 = .mp 3 1 0 0 ∧ hg w.H 3 = ⟨1, 0, true, [eQ p]⟩ ∧ gt .bad w.E 8 = dI (i : Nat) ∧ gt .bad w.E 9 = .mp 9 v9 0 0 ∧ hg w.H 9 = ⟨v9, 0, true, [[dI (plc ps i).home, dI (plc ps i).sby]]⟩ ∧
    gt .bad w.E 10 = dI (k : Nat) ∧ gt .bad w.E 7 = ov ∧ SlO w.H (fun b => b = 64) 5 ((B ++ oneK rule (hold17 p r4) (i : Nat) (plc ps i) k).map eB) ov ∧ k ≤ 2
theorem single_l0 (p : Prob) (hc : ConfOk p.conf) (ps : List Plc) (rule : Int) (r4 : Bool) (hr : (rule == 4) = r4) (B : List Brk) (hB : B.length ≤ 10000) (i : Nat) (hi : ∀ k, -1 ≤ two2 (plc ps i) k) : ∀ k w, L106i p ps rule r4 B i k w → Ok (R PP shF 0 66 (.loop ir106_l0) w) (fun e w => e = .exit 2 ∧ L106i p ps rule r4 B i 2 w) := by
  refine Ok_up 2 _ fun k w hI => ?_
  obtain ⟨E, H⟩ := w
  obtain ⟨v9, ov, e1, e2, e3, h3, e8, e9, h9, e10, e7, ho, hk⟩ := hI
  simp only at e1 e2 e3 h3 e8 e9 h9 e10 e7 ho
  have w1 : IntKind.wrap .i64 ((k : Int) + 1) = ((k + 1 : Nat) : Int) := by rw [w64 (by omega) (by omega)]; rfl
  by_cases hlt : k < 2
  · have d1 : decide ((k : Int) < 2) = true := decide_eq_true (by omega)
    have q0 : (0 : Int) ≤ (k : Int) := by omega
    have q1 : (k : Int) < ((2 : Nat) : Int) := by omega
    have q1' : (k : Int) < 2 := by omega
    have k1 : k * 1 = k := Nat.mul_one k
    have gk : ([dI (plc ps i).home, dI (plc ps i).sby] : List DV)[k]? = some (dI (two2 (plc ps i) k)) := by
      obtain rfl | rfl : k = 0 ∨ k = 1 := by omega
      · rfl
      · rfl
    have hK : oneK rule (hold17 p r4) (i : Nat) (plc ps i) (k + 1) = oneK rule (hold17 p r4) (i : Nat) (plc ps i) k ++ oneX rule (hold17 p r4) (i : Nat) (two2 (plc ps i) k) := rfl
    have hl := oneK_len rule (hold17 p r4) (i : Nat) (plc ps i) k
    have hn1 := hi k
    generalize two2 (plc ps i) k = n at *
    have B1 := FV_Has p.cells n
    have B2 := FV_rMay p.conf hc (i : Nat) n
    by_cases hn : n = -1
    · have z0 : decide (0 ≤ n) = false := decide_eq_false (by omega)
      have hx : oneX rule (hold17 p r4) (i : Nat) n = [] := by unfold oneX; rw [if_neg (by simp [hn])]
      rw [hx, List.append_nil] at hK
      cases r4 with
      | true =>
        simp -implicitDefEqProofs only [go_sem, ir106_l0, eQ, eK, e1, e2, e3, h3, e8, e9, h9, e10, e7, d1, q0, q1, q1', k1, gk, w1, hr, z0, vpS B1 rfl, vpS B2 rfl]
        refine .next hlt ⟨v9, ov, ?_, ?_, ?_, ?_, ?_, ?_, ?_, ?_, ?_, ?_, by omega⟩ <;> (try simp -implicitDefEqProofs only [go_sem, e1, e2, e3, h3, e8, e9, h9, e7, w1, eQ])
        rw [hK]; exact ho
      | false =>
        simp -implicitDefEqProofs only [go_sem, ir106_l0, eQ, eK, e1, e2, e3, h3, e8, e9, h9, e10, e7, d1, q0, q1, q1', k1, gk, w1, hr, z0, vpS B1 rfl, vpS B2 rfl]
        refine .next hlt ⟨v9, ov, ?_, ?_, ?_, ?_, ?_, ?_, ?_, ?_, ?_, ?_, by omega⟩ <;> (try simp -implicitDefEqProofs only [go_sem, e1, e2, e3, h3, e8, e9, h9, e7, w1, eQ])
        rw [hK]; exact ho
    have z0 : decide (0 ≤ n) = true := decide_eq_true (by omega)
    cases hh : hold17 p r4 (i : Nat) n with
    | true =>
      have hx : oneX rule (hold17 p r4) (i : Nat) n = [] := by unfold oneX; rw [if_neg (by simp [hh])]
      rw [hx, List.append_nil] at hK
      cases r4 with
      | true =>
        have hh' : mayB p.conf (i : Nat) n = true := hh
        rw [hh'] at B2
        simp -implicitDefEqProofs only [go_sem, ir106_l0, eQ, eK, e1, e2, e3, h3, e8, e9, h9, e10, e7, d1, q0, q1, q1', k1, gk, w1, hr, z0, vpS B1 rfl, vpS B2 rfl]
        refine .next hlt ⟨v9, ov, ?_, ?_, ?_, ?_, ?_, ?_, ?_, ?_, ?_, ?_, by omega⟩ <;> (try simp -implicitDefEqProofs only [go_sem, e1, e2, e3, h3, e8, e9, h9, e7, w1, eQ])
        rw [hK]; exact ho
      | false =>
        have hh' : has p.cells n = true := hh
        rw [hh'] at B1
        simp -implicitDefEqProofs only [go_sem, ir106_l0, eQ, eK, e1, e2, e3, h3, e8, e9, h9, e10, e7, d1, q0, q1, q1', k1, gk, w1, hr, z0, vpS B1 rfl, vpS B2 rfl]
        refine .next hlt ⟨v9, ov, ?_, ?_, ?_, ?_, ?_, ?_, ?_, ?_, ?_, ?_, by omega⟩ <;> (try simp -implicitDefEqProofs only [go_sem, e1, e2, e3, h3, e8, e9, h9, e7, w1, eQ])
        rw [hK]; exact ho
    | false =>
      have hx : oneX rule (hold17 p r4) (i : Nat) n = [⟨rule, i, -1, n, -1⟩] := by unfold oneX; rw [if_pos ⟨hn, hh⟩]
      rw [hx] at hK
      have BR := FV_broken rule (i : Nat) (-1) n (-1)
      have A := (ho.hs (d := 63) (x := ⟨(hg H 63).ver + 1, 5, true, [[dI rule, dI (i : Nat), dI (-1), dI n, dI (-1)]]⟩) (by decide)).app (bytes := 40) (base := 0) (d := 64) (x := .ms 63 ((hg H 63).ver + 1) 0 1 1) (elems_ms1 (by rw [hg_hs, if_pos rfl]) (by decide) rfl) rfl rfl (by decide) (by simp; omega) (by simp; omega)
      have A1 := A.1
      cases r4 with
      | true =>
        have hh' : mayB p.conf (i : Nat) n = false := hh
        rw [hh'] at B2
        simp -implicitDefEqProofs only [go_sem, ir106_l0, eQ, eK, e1, e2, e3, h3, e8, e9, h9, e10, e7, d1, q0, q1, q1', k1, gk, w1, hr, z0, vpS B1 rfl, vpS B2 rfl, vpS BR rfl, A1]
        obtain ⟨_, hA, hfr⟩ := A
        have h3' := hfr 3 (by decide)
        rw [hg_hs, if_neg (by decide), h3] at h3'
        have h9' := hfr 9 (by decide)
        rw [hg_hs, if_neg (by decide), h9] at h9'
        generalize apP 5 40 0 (some 64) _ ov _ = r at hA h3' h9' ⊢
        refine .next hlt ⟨v9, r.1, ?_, ?_, ?_, ?_, ?_, ?_, ?_, ?_, ?_, ?_, by omega⟩ <;> (try simp -implicitDefEqProofs only [go_sem, e1, e2, e3, h3', e8, e9, h9', w1, eQ])
        rw [hK, ← List.append_assoc, List.map_append]; exact hA
      | false =>
        have hh' : has p.cells n = false := hh
        rw [hh'] at B1
        simp -implicitDefEqProofs only [go_sem, ir106_l0, eQ, eK, e1, e2, e3, h3, e8, e9, h9, e10, e7, d1, q0, q1, q1', k1, gk, w1, hr, z0, vpS B1 rfl, vpS B2 rfl, vpS BR rfl, A1]
        obtain ⟨_, hA, hfr⟩ := A
        have h3' := hfr 3 (by decide)
        rw [hg_hs, if_neg (by decide), h3] at h3'
        have h9' := hfr 9 (by decide)
        rw [hg_hs, if_neg (by decide), h9] at h9'
        generalize apP 5 40 0 (some 64) _ ov _ = r at hA h3' h9' ⊢
        refine .next hlt ⟨v9, r.1, ?_, ?_, ?_, ?_, ?_, ?_, ?_, ?_, ?_, ?_, by omega⟩ <;> (try simp -implicitDefEqProofs only [go_sem, e1, e2, e3, h3', e8, e9, h9', w1, eQ])
        rw [hK, ← List.append_assoc, List.map_append]; exact hA
  · have hk2 : k = 2 := by omega
    have d1 : decide ((k : Int) < 2) = false := decide_eq_false (by omega)
    simp -implicitDefEqProofs only [go_sem, ir106_l0, e10, d1]
    subst hk2
    refine .exit ⟨rfl, v9, ov, ?_, ?_, ?_, h3, ?_, ?_, h9, ?_, ?_, ho, by omega⟩ <;> simp -implicitDefEqProofs only [go_sem, e1, e2, e3, e8, e9, e10, e7]
def L106 (p : Prob) (ps : List Plc) (rule : Int) (r4 : Bool) (i : Nat) (w : VSt) : Prop :=
  ∃ ov : DV, gt .bad w.E 1 = .sl (ps.map eP) ∧ gt .bad w.E 2 = dI rule ∧ gt .bad w.E 3 = .mp 3 1 0 0 ∧ hg w.H 3 = ⟨1, 0, true, [eQ p]⟩ ∧ gt .bad w.E 8 = dI (i : Nat) ∧ gt .bad w.E 7 = ov ∧ SlO w.H (fun b => b = 64) 5 ((oneL rule (hold17 p r4) ps i).map eB) ov ∧ i ≤ ps.length
theorem single_l1 (p : Prob) (hc : ConfOk p.conf) (ps : List Plc) (hps : ps.length ≤ 1000) (hi : ∀ i : Nat, i < ps.length → ∀ k, -1 ≤ two2 (plc ps i) k) (rule : Int) (r4 : Bool) (hr : (rule == 4) = r4) : ∀ i w, L106 p ps rule r4 i w → Ok (R PP shF 0 66 (.loop ir106_l1) w) (fun e w => e = .exit 0 ∧ L106 p ps rule r4 ps.length w) := by
  refine Ok_up ps.length _ fun i w hI => ?_
  obtain ⟨E, H⟩ := w
  obtain ⟨ov, e1, e2, e3, h3, e8, e7, ho, hk⟩ := hI
  simp only at e1 e2 e3 h3 e8 e7 ho
  have w1 : IntKind.wrap .i64 ((i : Int) + 1) = ((i + 1 : Nat) : Int) := by rw [w64 (by omega) (by omega)]; rfl
  by_cases hlt : i < ps.length
  · have d1 : decide ((i : Int) < (ps.length : Int)) = true := decide_eq_true (by omega)
    have q0 : (0 : Int) ≤ (i : Int) := by omega
    have q1 : (i : Int) < (ps.length : Int) := by omega
    have g1 : ps[i]? = some (plc ps i) := getD_at hlt
    have hl := oneL_len rule (hold17 p r4) ps i
    simp -implicitDefEqProofs only [go_sem, ir106_l1, e1, e2, e3, h3, e8, e7, d1, q0, q1, g1, hs_hs]
    refine (single_l0 p hc ps rule r4 hr (oneL rule (hold17 p r4) ps i) (by omega) i (hi i hlt) 0 _ ⟨(hg H 9).ver + 1, ov, ?_, ?_, ?_, ?_, ?_, ?_, ?_, ?_, ?_, ?_, by omega⟩).mono ?_ <;> (try simp -implicitDefEqProofs only [go_sem, e1, e2, e3, h3, e8, e7])
    · simp only [oneK, List.append_nil]
      first | exact ho.hs (by decide) | exact (ho.hs (by decide)).hs (by decide)
    · rintro e ⟨E', H'⟩ ⟨rfl, v9, ov', f1, f2, f3, g3, f8, f9, g9, f10, f7, ho', _⟩
      simp only at f1 f2 f3 g3 f8 f7 ho'
      simp -implicitDefEqProofs only [go_sem, f8, w1]
      refine .next hlt ⟨ov', ?_, ?_, ?_, g3, ?_, ?_, ho', by omega⟩ <;> simp -implicitDefEqProofs only [go_sem, f1, f2, f3, f7]
  · have hkl : i = ps.length := by omega
    have d1 : decide ((i : Int) < (ps.length : Int)) = false := decide_eq_false (by omega)
    simp -implicitDefEqProofs only [go_sem, ir106_l1, e1, e8, d1]
    subst hkl
    refine .exit ⟨rfl, ov, ?_, ?_, ?_, h3, ?_, ?_, ho, by omega⟩ <;> simp -implicitDefEqProofs only [go_sem, e1, e2, e3, e8, e7]
theorem OkF_single (p : Prob) (hc : ConfOk p.conf) (ps : List Plc) (hps : ps.length ≤ 1000) (hi : ∀ i : Nat, i < ps.length → ∀ k, -1 ≤ two2 (plc ps i) k) (rule : Int) (r4 : Bool) (hr : (rule == 4) = r4) : OkF (F PP shF 106 [.agg (eQ p), .sl (ps.map eP), dI rule] [] 0) (fun d H => ∃ b, SlB H b 5 ((oneL rule (hold17 p r4) ps ps.length).map eB) d) := by
  refine F_ok PP106 rfl ⟨by simp [ir106], by simp⟩ ?_
  simp -implicitDefEqProofs only [go_sem, ir106, eQ]
  refine (single_l1 p hc ps hps hi rule r4 hr 0 _ ⟨.lit (.slice none 0 0), ?_, ?_, ?_, ?_, ?_, ?_, ?_, by omega⟩).mono ?_ <;> (try simp -implicitDefEqProofs only [go_sem, eQ])
  · exact SlO.nil rfl
  · rintro e ⟨E, H⟩ ⟨rfl, ov, f1, f2, f3, g3, f8, f7, ho, _⟩
    simp only at f7 ho
    obtain ⟨b, _, hb⟩ := ho
    simp -implicitDefEqProofs only [go_sem, f7]
    exact ⟨b, hb⟩
def grpZ (c : Conf) (ps : List Plc) (i k : Nat) : Bool := decide ((ten c i).group > 0) && ((ten c i).group == (ten c k).group) && ((c.cells.getD (plc ps i).home.toNat ⟨0, 0⟩).zone == (c.cells.getD (plc ps k).home.toNat ⟨0, 0⟩).zone)
/-- The clashes of the reference. -/
def clash17 (c : Conf) (ps : List Plc) (r6 : Bool) (i k : Nat) : Bool := if r6 = true then grpZ c ps i k else nsyB c ps i k
def L98 (p : Prob) (ps : List Plc) (r : Int) (k : Nat) (w : VSt) : Prop := gt .bad w.E 1 = .sl (ps.map eP) ∧ gt .bad w.E 2 = dI r ∧ gt .bad w.E 3 = .mp 3 1 0 0 ∧ hg w.H 3 = ⟨1, 0, true, [eQ p]⟩ ∧ gt .bad w.E 7 = .ms 13 1 0 p.conf.cells.length p.conf.cells.length ∧ hg w.H 13 = ⟨1, 1, true, (extra p.conf ps r k).map eI⟩ ∧
  gt .bad w.E 8 = dI (k : Nat) ∧ k ≤ ps.length
theorem rextra_l0 (p : Prob) (hc : ConfOk p.conf) (ps : List Plc) (hfit : FitP p.conf ps) (r : Int) : ∀ k w, L98 p ps r k w → Ok (R PP shF 0 79 (.loop ir98_l0) w) (fun e w => e = .exit 0 ∧ gt .bad w.E 7 = .ms 13 1 0 p.conf.cells.length p.conf.cells.length ∧ hg w.H 13 = ⟨1, 1, true, (extra p.conf ps r ps.length).map eI⟩) := by
  refine Ok_up ps.length (L98 p ps r) fun k w hI => ?_
  obtain ⟨E, H⟩ := w
  obtain ⟨e1, e2, e3, h3, e7, h7, e8, hk⟩ := hI
  simp only at e1 e2 e3 h3 e7 h7 e8
  have hn := hc.lens.c
  have ht5 := hc.t1
  have hpt := hfit.1
  have w1 : IntKind.wrap .i64 ((k : Int) + 1) = ((k + 1 : Nat) : Int) := by rw [w64 (by omega) (by omega)]; rfl
  by_cases hlt : k < ps.length
  · have d1 : decide ((k : Int) < (ps.length : Int)) = true := decide_eq_true (by omega)
    have q1 : (k : Int) < (ps.length : Int) := by omega
    have q0 : (0 : Int) ≤ (k : Int) := by omega
    have g1 : ps[k]? = some (plc ps k) := getD_at (by omega)
    have g2 : p.conf.tens[k]? = some (ten p.conf k) := getD_at (l := p.conf.tens) (i := k) (d := ⟨0, 0, 0, 0, 0, 0, false⟩) (by omega)
    have q2 : (k : Int) < (p.conf.tens.length : Int) := by omega
    have ht := ten_ok hc (k := k) (by omega)
    have l0 := ht.l0
    have l1 := ht.l1
    have s0 := ht.s0
    have s1 := ht.s1
    have ok := hfit.2 _ (List.mem_of_getElem? g1)
    have o0 := ok.h0
    have o1 := ok.h1
    have o2 := ok.s0
    have o3 := ok.s1
    have B1 := FV_region17 p hc (plc ps k).home
    have B3 := FV_region17 p hc (plc ps k).sby
    have bd1 := extra_bd hc ps r k (by omega)
    have bl1 := extra_len p.conf ps r k
    have wt : IntKind.wrap .i64 ((ten p.conf k).load - (ten p.conf k).shadow) = (ten p.conf k).load - (ten p.conf k).shadow := w64 (by omega) (by omega)
    have no : exC p.conf ps r k = false → extra p.conf ps r (k + 1) = extra p.conf ps r k := fun h => by simp only [extra]; rw [if_neg (by rw [h]; simp)]
    by_cases c0 : 0 ≤ (plc ps k).home
    case neg =>
      have hx := no (by unfold exC insideB; rw [regOf_out (by omega)]; simp)
      have z0 : decide (0 ≤ (plc ps k).home) = false := decide_eq_false c0
      simp -implicitDefEqProofs only [go_sem, ir98_l0, eQ, eK, e1, e2, e3, h3, e7, h7, e8, d1, w1, q0, q1, q2, g1, g2, z0]
      refine .next hlt ⟨?_, ?_, ?_, ?_, ?_, ?_, ?_, by omega⟩ <;> simp -implicitDefEqProofs only [go_sem, e1, e2, e3, h3, e7, h7, w1, eQ, hx]
    have z0 : decide (0 ≤ (plc ps k).home) = true := decide_eq_true c0
    have hr := hc.regOf c0 o1
    cases c1 : (regOf p.conf (plc ps k).home == r) with
    | false =>
      have hx := no (by unfold exC insideB; rw [c1]; simp)
      simp -implicitDefEqProofs only [go_sem, ir98_l0, eQ, eK, e1, e2, e3, h3, e7, h7, e8, d1, w1, q0, q1, q2, g1, g2, z0, vpS B1 rfl, c1]
      refine .next hlt ⟨?_, ?_, ?_, ?_, ?_, ?_, ?_, by omega⟩ <;> simp -implicitDefEqProofs only [go_sem, e1, e2, e3, h3, e7, h7, w1, eQ, hx]
    | true =>
      by_cases c2 : 0 ≤ (plc ps k).sby
      case neg =>
        have hx := no (by unfold exC; rw [decide_eq_false c2]; simp)
        have z1 : decide (0 ≤ (plc ps k).sby) = false := decide_eq_false c2
        simp -implicitDefEqProofs only [go_sem, ir98_l0, eQ, eK, e1, e2, e3, h3, e7, h7, e8, d1, w1, q0, q1, q2, g1, g2, z0, z1, vpS B1 rfl, c1]
        refine .next hlt ⟨?_, ?_, ?_, ?_, ?_, ?_, ?_, by omega⟩ <;> simp -implicitDefEqProofs only [go_sem, e1, e2, e3, h3, e7, h7, w1, eQ, hx]
      have z1 : decide (0 ≤ (plc ps k).sby) = true := decide_eq_true c2
      have hr2 := hc.regOf c2 o3
      cases c3 : (regOf p.conf (plc ps k).sby == r) with
      | true =>
        have c3' : (regOf p.conf (plc ps k).sby != r) = false := by unfold bne; rw [c3]; rfl
        have hx := no (by unfold exC insideB; rw [c3, decide_eq_true hr2.1]; simp)
        simp -implicitDefEqProofs only [go_sem, ir98_l0, eQ, eK, e1, e2, e3, h3, e7, h7, e8, d1, w1, q0, q1, q2, g1, g2, z0, z1, vpS B1 rfl, vpS B3 rfl, c1, c3']
        refine .next hlt ⟨?_, ?_, ?_, ?_, ?_, ?_, ?_, by omega⟩ <;> simp -implicitDefEqProofs only [go_sem, e1, e2, e3, h3, e7, h7, w1, eQ, hx]
      | false =>
        have c3' : (regOf p.conf (plc ps k).sby != r) = true := by unfold bne; rw [c3]; rfl
        have hx : extra p.conf ps r (k + 1) = addAt (extra p.conf ps r k) (plc ps k).sby ((ten p.conf k).load - (ten p.conf k).shadow) := by
          simp only [extra]
          rw [if_pos]
          unfold exC insideB
          rw [c1, c3, decide_eq_true hr.1, z1, decide_eq_true o3]; simp
        have A2 := add_F (extra p.conf ps r k) (plc ps k).sby ((ten p.conf k).load - (ten p.conf k).shadow) _ bl1 (fun _ => by have := bd1 (plc ps k).sby.toNat; exact w64 (by omega) (by omega))
        simp -implicitDefEqProofs only [go_sem, ir98_l0, eQ, eK, e1, e2, e3, h3, e7, h7, e8, d1, w1, q0, q1, q2, g1, g2, z0, z1, vpS B1 rfl, vpS B3 rfl, c1, c3', wt, A2, mergeV_hs]
        refine .next hlt ⟨?_, ?_, ?_, ?_, ?_, ?_, ?_, by omega⟩ <;> simp -implicitDefEqProofs only [go_sem, e1, e2, e3, h3, e7, w1, eQ, hx]
  · have hkl : k = ps.length := by omega
    have d1 : decide ((k : Int) < (ps.length : Int)) = false := decide_eq_false (by omega)
    simp -implicitDefEqProofs only [go_sem, ir98_l0, e1, e8, d1]
    subst hkl
    exact .exit ⟨rfl, by simp -implicitDefEqProofs only [go_sem, e7], h7⟩
theorem FVF_rExtra (p : Prob) (hc : ConfOk p.conf) (ps : List Plc) (hfit : FitP p.conf ps) (r : Int) : FVF PP shF 98 [.agg (eQ p), .sl (ps.map eP), dI r] (dL (extra p.conf ps r ps.length)) := by
  refine FVF_ok (F_ok PP98 rfl ⟨by simp [ir98], by simp⟩ ?_)
  have hn := hc.lens.c
  have hc0 : p.conf.cells.length ≠ 0 := by have := hc.c0; have := hc.z0; have := hc.r0; omega
  have m1 : (0 : Int) ≤ (p.conf.cells.length : Int) ∧ (p.conf.cells.length : Int) ≤ (p.conf.cells.length : Int) ∧ ((8 : Nat) : Int) * (p.conf.cells.length : Int) ≤ 281474976710656 ∧ (p.conf.cells.length : Int) ≤ 9223372036854775807 := by omega
  simp -implicitDefEqProofs only [go_sem, ir98, eQ, eK, m1]
  refine (rextra_l0 p hc ps hfit r 0 _ ?_).mono ?_
  · refine ⟨?_, ?_, ?_, ?_, ?_, ?_, ?_, by omega⟩ <;> simp -implicitDefEqProofs only [go_sem, eQ, extra, List.map_replicate]
  rintro e ⟨E, H⟩ ⟨rfl, e5, h5⟩
  simp only at e5 h5
  have ho : SlB H 13 1 ((extra p.conf ps r ps.length).map eI) (.ms 13 1 0 p.conf.cells.length p.conf.cells.length) := SlB.mk (by simp [extra_len]) hc0 h5
  simp -implicitDefEqProofs only [go_sem, e5, ho.frz (by decide) (closed_eI _), ho.fresh (by decide) (lits_eI _)]
/-- How many regions a tenant has. -/
def cntA (a : Int) : Nat → Int
  | 0 => 0
  | r + 1 => cntA a r + (if has a (r : Nat) = true then 1 else 0)
theorem cntA_bd (a : Int) : ∀ r : Nat, 0 ≤ cntA a r ∧ cntA a r ≤ r
  | 0 => by simp [cntA]
  | r + 1 => by have := cntA_bd a r; simp only [cntA]; split <;> (push_cast; omega)
def rsing (c : Conf) (t : Int) : Bool := decide (0 ≤ t) && decide (t < c.tens.length) && (cntA (ten c t).allowed c.regions.toNat == 1)
def L100 (p : Prob) (t : Int) (r : Nat) (w : VSt) : Prop := gt .bad w.E 1 = dI t ∧ gt .bad w.E 2 = .mp 2 1 0 0 ∧ hg w.H 2 = ⟨1, 0, true, [eQ p]⟩ ∧ gt .bad w.E 5 = dI (cntA (ten p.conf t).allowed r) ∧ gt .bad w.E 6 = dI (r : Nat) ∧ (r : Int) ≤ p.conf.regions
theorem rsing_l0 (p : Prob) (t : Int) (h0 : 0 ≤ t) (h1 : t < p.conf.tens.length) (R' : Nat) (hR : (R' : Int) = p.conf.regions) (hR2 : R' ≤ 1000) : ∀ r w, L100 p t r w → Ok (R PP shF 0 37 (.loop ir100_l0) w) (fun e w => e = .exit 0 ∧ gt .bad w.E 5 = dI (cntA (ten p.conf t).allowed R')) := by
  refine Ok_up R' (L100 p t) fun r w hI => ?_
  obtain ⟨E, H⟩ := w
  obtain ⟨e1, e2, h2, e5, e6, hk⟩ := hI
  simp only at e1 e2 h2 e5 e6
  have w1 : IntKind.wrap .i64 ((r : Int) + 1) = ((r + 1 : Nat) : Int) := by rw [w64 (by omega) (by omega)]; rfl
  by_cases hlt : r < R'
  · have d1 : decide ((r : Int) < p.conf.regions) = true := decide_eq_true (by omega)
    have gt1 : p.conf.tens[t.toNat]? = some (ten p.conf t) := getD_at (l := p.conf.tens) (i := t.toNat) (d := ⟨0, 0, 0, 0, 0, 0, false⟩) (by omega)
    have B := FV_Has (ten p.conf t).allowed (r : Nat)
    have bd := cntA_bd (ten p.conf t).allowed r
    cases hh : has (ten p.conf t).allowed (r : Nat) with
    | true =>
      rw [hh] at B
      have hu : cntA (ten p.conf t).allowed (r + 1) = cntA (ten p.conf t).allowed r + 1 := by simp only [cntA]; rw [if_pos hh]
      have w2 : IntKind.wrap .i64 (cntA (ten p.conf t).allowed r + 1) = cntA (ten p.conf t).allowed r + 1 := w64 (by omega) (by omega)
      simp -implicitDefEqProofs only [go_sem, ir100_l0, eQ, e1, e2, h2, e5, e6, d1, w1, h0, h1, gt1, vpS B rfl, w2]
      refine .next hlt ⟨?_, ?_, ?_, ?_, ?_, by omega⟩ <;> simp -implicitDefEqProofs only [go_sem, e1, e2, h2, w1, hu, eQ]
    | false =>
      rw [hh] at B
      have hu : cntA (ten p.conf t).allowed (r + 1) = cntA (ten p.conf t).allowed r := by simp only [cntA]; rw [if_neg (by rw [hh]; simp)]; omega
      simp -implicitDefEqProofs only [go_sem, ir100_l0, eQ, e1, e2, h2, e5, e6, d1, w1, h0, h1, gt1, vpS B rfl]
      refine .next hlt ⟨?_, ?_, ?_, ?_, ?_, by omega⟩ <;> simp -implicitDefEqProofs only [go_sem, e1, e2, h2, e5, w1, hu, eQ]
  · have hkl : r = R' := by omega
    have d1 : decide ((r : Int) < p.conf.regions) = false := decide_eq_false (by omega)
    simp -implicitDefEqProofs only [go_sem, ir100_l0, eQ, e2, h2, e6, d1]
    subst hkl
    exact .exit ⟨rfl, by simp -implicitDefEqProofs only [go_sem, e5]⟩
theorem FV_rSingle (p : Prob) (hr : 0 ≤ p.conf.regions ∧ p.conf.regions ≤ 1000) (t : Int) : FV PP shF 100 [.agg (eQ p), dI t] = some (dB (rsing p.conf t)) := by
  refine FV_ok (F_ok PP100 rfl ⟨by simp [ir100], by simp⟩ ?_)
  unfold rsing
  by_cases h0 : 0 ≤ t
  · have n0 : ¬ t < 0 := by omega
    by_cases h1 : t < p.conf.tens.length
    · have n1 : decide ((p.conf.tens.length : Int) ≤ t) = false := decide_eq_false (by omega)
      simp -implicitDefEqProofs only [go_sem, ir100, eQ, h0, h1, n0, n1]
      refine (rsing_l0 p t h0 h1 p.conf.regions.toNat (by omega) (by omega) 0 _ ⟨?_, ?_, ?_, ?_, ?_, by omega⟩).mono ?_ <;> (try simp -implicitDefEqProofs only [go_sem, eQ, cntA])
      rintro e ⟨E, H⟩ ⟨rfl, e5⟩
      simp only at e5
      simp -implicitDefEqProofs only [go_sem, e5]
    · have n1 : decide ((p.conf.tens.length : Int) ≤ t) = true := decide_eq_true (by omega)
      simp -implicitDefEqProofs only [go_sem, ir100, eQ, h0, h1, n0, n1]
  · have n0 : t < 0 := by omega
    simp -implicitDefEqProofs only [go_sem, ir100, eQ, h0, n0]
/-- Both say the same of a tenant of a configuration that is right. -/
theorem sing8 : ∀ R : Fin 4, ∀ a : Fin 8, 1 ≤ a.val → a.val < 2 ^ R.val → (decide (((a.val : Nat) : Int) > 0) && (andI .i64 ((a.val : Nat) : Int) (IntKind.wrap .i64 (((a.val : Nat) : Int) - 1)) == 0)) = (cntA ((a.val : Nat) : Int) R.val == 1) := by decide +kernel
theorem sing_eq {c : Conf} (hc : ConfOk c) (t : Int) : rsing c t = singB c t := by
  unfold rsing singB
  by_cases h0 : 0 ≤ t
  · by_cases h1 : t < c.tens.length
    · have g : c.tens[t.toNat]? = some (ten c t) := getD_at (l := c.tens) (i := t.toNat) (d := ⟨0, 0, 0, 0, 0, 0, false⟩) (by omega)
      have ht := hc.ts _ (List.mem_of_getElem? g)
      have a0 := ht.a0
      have a1 := ht.a1
      have r0 := hc.r0
      have r1 := hc.r1
      have hb : (ten c t).allowed < 2 ^ c.regions.toNat ∧ (ten c t).allowed < 8 := by
        obtain hh | hh | hh : c.regions = 1 ∨ c.regions = 2 ∨ c.regions = 3 := by omega
        all_goals (rw [hh] at a1 ⊢; simp [allR] at a1 ⊢; omega)
      have := sing8 ⟨c.regions.toNat, by omega⟩ ⟨(ten c t).allowed.toNat, by omega⟩ (by simp only; omega) (by
        have h2 := hb.1
        have e : ((2 ^ c.regions.toNat : Nat) : Int) = 2 ^ c.regions.toNat := Int.natCast_pow 2 _
        simp only
        omega)
      simp only [show ((((ten c t).allowed.toNat : Nat)) : Int) = (ten c t).allowed by omega] at this
      rw [this]
    · rw [decide_eq_false h1]; simp
  · rw [decide_eq_false h0]; simp
def L109i (c : Conf) (ps : List Plc) (rule : Int) (r6 : Bool) (B : List Brk) (i k : Nat) (w : VSt) : Prop :=
  ∃ ov : DV, gt .bad w.E 1 = .sl (ps.map eP) ∧ gt .bad w.E 2 = dI rule ∧ gt .bad w.E 8 = .mp 8 1 0 0 ∧ hg w.H 8 = ⟨1, 0, true, [eK c]⟩ ∧ gt .bad w.E 9 = dI (i : Nat) ∧ gt .bad w.E 10 = dI (k : Nat) ∧ gt .bad w.E 7 = ov ∧ SlO w.H (fun b => b = 125) 5 ((B ++ prK rule (clash17 c ps r6) ps i k).map eB) ov ∧ k ≤ i
theorem rpairs_sF (p : Prob) (ps : List Plc) (hfit : FitP p.conf ps) (rule : Int) (hr : (rule == 6) = false) (B : List Brk) (hB : B.length ≤ 10000) (i : Nat) (hi : i < ps.length) (hps : ps.length ≤ 100) (k : Nat) (hlt : k < i) (w : VSt) (hI : L109i p.conf ps rule false B i k w) : Ok (R PP shF 0 127 ir109_l0 w) (StepUp i (L109i p.conf ps rule false B i) (fun e w => e = .exit 2 ∧ L109i p.conf ps rule false B i i w) k) := by
  obtain ⟨E, H⟩ := w
  obtain ⟨ov, e1, e2, e8, h8, e9, e10, e7, ho, hk⟩ := hI
  simp only at e1 e2 e8 h8 e9 e10 e7 ho
  have hpt := hfit.1
  have w1 : IntKind.wrap .i64 ((k : Int) + 1) = ((k + 1 : Nat) : Int) := by rw [w64 (by omega) (by omega)]; rfl
  · have d1 : decide ((k : Int) < (i : Int)) = true := decide_eq_true (by omega)
    have q0 : (0 : Int) ≤ (k : Int) := by omega
    have q1 : (k : Int) < (ps.length : Int) := by omega
    have r0 : (0 : Int) ≤ (i : Int) := by omega
    have r1 : (i : Int) < (ps.length : Int) := by omega
    have q2 : (k : Int) < (p.conf.tens.length : Int) := by omega
    have r2 : (i : Int) < (p.conf.tens.length : Int) := by omega
    have gk : ps[k]? = some (plc ps k) := getD_at (by omega)
    have gi : ps[i]? = some (plc ps i) := getD_at (by omega)
    have tk : p.conf.tens[k]? = some (ten p.conf k) := getD_at (l := p.conf.tens) (i := k) (d := ⟨0, 0, 0, 0, 0, 0, false⟩) (by omega)
    have ti : p.conf.tens[i]? = some (ten p.conf i) := getD_at (l := p.conf.tens) (i := i) (d := ⟨0, 0, 0, 0, 0, 0, false⟩) (by omega)
    have oi := hfit.2 _ (List.mem_of_getElem? gi)
    have ok := hfit.2 _ (List.mem_of_getElem? gk)
    have oi0 := oi.h0
    have oi1 := oi.h1
    have ok0 := ok.h0
    have ok1 := ok.h1
    have hl := prK_len rule (clash17 p.conf ps false) ps i k
    have hK : prK rule (clash17 p.conf ps false) ps i (k + 1) = prK rule (clash17 p.conf ps false) ps i k ++ prX rule (clash17 p.conf ps false) ps i k := rfl
    by_cases g1 : (plc ps i).home = -1
    · have z0 : decide ((plc ps i).home < 0) = true := decide_eq_true (by omega)
      have hx : prX rule (clash17 p.conf ps false) ps i k = [] := by unfold prX; rw [if_neg]; simp [g1]
      rw [hx, List.append_nil] at hK
      simp -implicitDefEqProofs only [go_sem, ir109_l0, eK, e1, e2, e8, h8, e9, e10, e7, d1, q0, q1, r0, r1, q2, r2, gi, gk, ti, tk, w1, z0]
      refine .next hlt ⟨ov, ?_, ?_, ?_, ?_, ?_, ?_, ?_, ?_, by omega⟩ <;> (try simp -implicitDefEqProofs only [go_sem, e1, e2, e8, h8, e9, e7, w1, eK])
      rw [hK]; exact ho
    have z0 : decide ((plc ps i).home < 0) = false := decide_eq_false (by omega)
    by_cases g2 : (plc ps k).home = -1
    · have z1 : decide ((plc ps k).home < 0) = true := decide_eq_true (by omega)
      have hx : prX rule (clash17 p.conf ps false) ps i k = [] := by unfold prX; rw [if_neg]; simp [g2]
      rw [hx, List.append_nil] at hK
      simp -implicitDefEqProofs only [go_sem, ir109_l0, eK, e1, e2, e8, h8, e9, e10, e7, d1, q0, q1, r0, r1, q2, r2, gi, gk, ti, tk, w1, z0, z1]
      refine .next hlt ⟨ov, ?_, ?_, ?_, ?_, ?_, ?_, ?_, ?_, by omega⟩ <;> (try simp -implicitDefEqProofs only [go_sem, e1, e2, e8, h8, e9, e7, w1, eK])
      rw [hK]; exact ho
    have z1 : decide ((plc ps k).home < 0) = false := decide_eq_false (by omega)
    have ci : p.conf.cells[(plc ps i).home.toNat]? = some (p.conf.cells.getD (plc ps i).home.toNat ⟨0, 0⟩) := getD_at (by omega)
    have ck : p.conf.cells[(plc ps k).home.toNat]? = some (p.conf.cells.getD (plc ps k).home.toNat ⟨0, 0⟩) := getD_at (by omega)
    have ci0 : (0 : Int) ≤ (plc ps i).home ∧ (plc ps i).home < (p.conf.cells.length : Int) := by omega
    have ck0 : (0 : Int) ≤ (plc ps k).home ∧ (plc ps k).home < (p.conf.cells.length : Int) := by omega
    have BR := FV_broken rule (i : Nat) (k : Nat) (plc ps k).home (-1)
    have A := (ho.hs (d := 124) (x := ⟨(hg H 124).ver + 1, 5, true, [[dI rule, dI (i : Nat), dI (k : Nat), dI (plc ps k).home, dI (-1)]]⟩) (by decide)).app (bytes := 40) (base := 0) (d := 125) (x := .ms 124 ((hg H 124).ver + 1) 0 1 1) (elems_ms1 (by rw [hg_hs, if_pos rfl]) (by decide) rfl) rfl rfl (by decide) (by simp; omega) (by simp; omega)
    cases n1 : (ten p.conf i).noisy with
    | false =>
      have hx : prX rule (clash17 p.conf ps false) ps i k = [] := by unfold prX; rw [if_neg]; simp [clash17, nsyB, n1]
      rw [hx, List.append_nil] at hK
      simp -implicitDefEqProofs only [go_sem, ir109_l0, eK, e1, e2, e8, h8, e9, e10, e7, d1, q0, q1, r0, r1, q2, r2, gi, gk, ti, tk, w1, z0, z1, hr, ci, ck, ci0, ck0, n1]
      refine .next hlt ⟨ov, ?_, ?_, ?_, ?_, ?_, ?_, ?_, ?_, by omega⟩ <;> (try simp -implicitDefEqProofs only [go_sem, e1, e2, e8, h8, e9, e7, w1, eK])
      rw [hK]; exact ho
    | true =>
      cases n2 : (ten p.conf k).noisy with
      | false =>
        have hx : prX rule (clash17 p.conf ps false) ps i k = [] := by unfold prX; rw [if_neg]; simp [clash17, nsyB, n1, n2]
        rw [hx, List.append_nil] at hK
        simp -implicitDefEqProofs only [go_sem, ir109_l0, eK, e1, e2, e8, h8, e9, e10, e7, d1, q0, q1, r0, r1, q2, r2, gi, gk, ti, tk, w1, z0, z1, hr, ci, ck, ci0, ck0, n1, n2]
        refine .next hlt ⟨ov, ?_, ?_, ?_, ?_, ?_, ?_, ?_, ?_, by omega⟩ <;> (try simp -implicitDefEqProofs only [go_sem, e1, e2, e8, h8, e9, e7, w1, eK])
        rw [hK]; exact ho
      | true =>
        cases n3 : ((plc ps i).home == (plc ps k).home) with
        | false =>
          have hx : prX rule (clash17 p.conf ps false) ps i k = [] := by unfold prX; rw [if_neg]; simp only [clash17, nsyB, n1, n2, n3]; simp
          rw [hx, List.append_nil] at hK
          simp -implicitDefEqProofs only [go_sem, ir109_l0, eK, e1, e2, e8, h8, e9, e10, e7, d1, q0, q1, r0, r1, q2, r2, gi, gk, ti, tk, w1, z0, z1, hr, ci, ck, ci0, ck0, n1, n2, n3]
          refine .next hlt ⟨ov, ?_, ?_, ?_, ?_, ?_, ?_, ?_, ?_, by omega⟩ <;> (try simp -implicitDefEqProofs only [go_sem, e1, e2, e8, h8, e9, e7, w1, eK])
          rw [hK]; exact ho
        | true =>
          have hx : prX rule (clash17 p.conf ps false) ps i k = [⟨rule, i, k, (plc ps k).home, -1⟩] := by unfold prX; rw [if_pos ⟨g1, g2, by simp only [clash17, nsyB, n1, n2, n3]; simp⟩]
          rw [hx] at hK
          simp -implicitDefEqProofs only [go_sem, ir109_l0, eK, e1, e2, e8, h8, e9, e10, e7, d1, q0, q1, r0, r1, q2, r2, gi, gk, ti, tk, w1, z0, z1, hr, ci, ck, ci0, ck0, n1, n2, n3, vpS BR rfl, A.1]
          obtain ⟨_, hA, hfr⟩ := A
          have h8' := hfr 8 (by decide)
          rw [hg_hs, if_neg (by decide), h8] at h8'
          generalize apP 5 40 0 (some 125) _ ov _ = r at hA h8' ⊢
          refine .next hlt ⟨r.1, ?_, ?_, ?_, ?_, ?_, ?_, ?_, ?_, by omega⟩ <;> (try simp -implicitDefEqProofs only [go_sem, e1, e2, e8, h8', e9, w1, eK])
          rw [hK, ← List.append_assoc, List.map_append]; exact hA
theorem rpairs_sTtt (p : Prob) (ps : List Plc) (hfit : FitP p.conf ps) (rule : Int) (hr : (rule == 6) = true) (B : List Brk) (hB : B.length ≤ 10000) (i : Nat) (hi : i < ps.length) (hps : ps.length ≤ 100) (k : Nat) (hlt : k < i) (w : VSt) (hI : L109i p.conf ps rule true B i k w) (n1 : (ten p.conf i).noisy = true) (n2 : (ten p.conf k).noisy = true) : Ok (R PP shF 0 127 ir109_l0 w) (StepUp i (L109i p.conf ps rule true B i) (fun e w => e = .exit 2 ∧ L109i p.conf ps rule true B i i w) k) := by
  obtain ⟨E, H⟩ := w
  obtain ⟨ov, e1, e2, e8, h8, e9, e10, e7, ho, hk⟩ := hI
  simp only at e1 e2 e8 h8 e9 e10 e7 ho
  have hpt := hfit.1
  have w1 : IntKind.wrap .i64 ((k : Int) + 1) = ((k + 1 : Nat) : Int) := by rw [w64 (by omega) (by omega)]; rfl
  · have d1 : decide ((k : Int) < (i : Int)) = true := decide_eq_true (by omega)
    have q0 : (0 : Int) ≤ (k : Int) := by omega
    have q1 : (k : Int) < (ps.length : Int) := by omega
    have r0 : (0 : Int) ≤ (i : Int) := by omega
    have r1 : (i : Int) < (ps.length : Int) := by omega
    have q2 : (k : Int) < (p.conf.tens.length : Int) := by omega
    have r2 : (i : Int) < (p.conf.tens.length : Int) := by omega
    have gk : ps[k]? = some (plc ps k) := getD_at (by omega)
    have gi : ps[i]? = some (plc ps i) := getD_at (by omega)
    have tk : p.conf.tens[k]? = some (ten p.conf k) := getD_at (l := p.conf.tens) (i := k) (d := ⟨0, 0, 0, 0, 0, 0, false⟩) (by omega)
    have ti : p.conf.tens[i]? = some (ten p.conf i) := getD_at (l := p.conf.tens) (i := i) (d := ⟨0, 0, 0, 0, 0, 0, false⟩) (by omega)
    have oi := hfit.2 _ (List.mem_of_getElem? gi)
    have ok := hfit.2 _ (List.mem_of_getElem? gk)
    have oi0 := oi.h0
    have oi1 := oi.h1
    have ok0 := ok.h0
    have ok1 := ok.h1
    have hl := prK_len rule (clash17 p.conf ps true) ps i k
    have hK : prK rule (clash17 p.conf ps true) ps i (k + 1) = prK rule (clash17 p.conf ps true) ps i k ++ prX rule (clash17 p.conf ps true) ps i k := rfl
    by_cases g1 : (plc ps i).home = -1
    · have z0 : decide ((plc ps i).home < 0) = true := decide_eq_true (by omega)
      have hx : prX rule (clash17 p.conf ps true) ps i k = [] := by unfold prX; rw [if_neg]; simp [g1]
      rw [hx, List.append_nil] at hK
      simp -implicitDefEqProofs only [go_sem, ir109_l0, eK, e1, e2, e8, h8, e9, e10, e7, d1, q0, q1, r0, r1, q2, r2, gi, gk, ti, tk, w1, z0]
      refine .next hlt ⟨ov, ?_, ?_, ?_, ?_, ?_, ?_, ?_, ?_, by omega⟩ <;> (try simp -implicitDefEqProofs only [go_sem, e1, e2, e8, h8, e9, e7, w1, eK])
      rw [hK]; exact ho
    have z0 : decide ((plc ps i).home < 0) = false := decide_eq_false (by omega)
    by_cases g2 : (plc ps k).home = -1
    · have z1 : decide ((plc ps k).home < 0) = true := decide_eq_true (by omega)
      have hx : prX rule (clash17 p.conf ps true) ps i k = [] := by unfold prX; rw [if_neg]; simp [g2]
      rw [hx, List.append_nil] at hK
      simp -implicitDefEqProofs only [go_sem, ir109_l0, eK, e1, e2, e8, h8, e9, e10, e7, d1, q0, q1, r0, r1, q2, r2, gi, gk, ti, tk, w1, z0, z1]
      refine .next hlt ⟨ov, ?_, ?_, ?_, ?_, ?_, ?_, ?_, ?_, by omega⟩ <;> (try simp -implicitDefEqProofs only [go_sem, e1, e2, e8, h8, e9, e7, w1, eK])
      rw [hK]; exact ho
    have z1 : decide ((plc ps k).home < 0) = false := decide_eq_false (by omega)
    have ci : p.conf.cells[(plc ps i).home.toNat]? = some (p.conf.cells.getD (plc ps i).home.toNat ⟨0, 0⟩) := getD_at (by omega)
    have ck : p.conf.cells[(plc ps k).home.toNat]? = some (p.conf.cells.getD (plc ps k).home.toNat ⟨0, 0⟩) := getD_at (by omega)
    have ci0 : (0 : Int) ≤ (plc ps i).home ∧ (plc ps i).home < (p.conf.cells.length : Int) := by omega
    have ck0 : (0 : Int) ≤ (plc ps k).home ∧ (plc ps k).home < (p.conf.cells.length : Int) := by omega
    have BR := FV_broken rule (i : Nat) (k : Nat) (plc ps k).home (-1)
    have A := (ho.hs (d := 124) (x := ⟨(hg H 124).ver + 1, 5, true, [[dI rule, dI (i : Nat), dI (k : Nat), dI (plc ps k).home, dI (-1)]]⟩) (by decide)).app (bytes := 40) (base := 0) (d := 125) (x := .ms 124 ((hg H 124).ver + 1) 0 1 1) (elems_ms1 (by rw [hg_hs, if_pos rfl]) (by decide) rfl) rfl rfl (by decide) (by simp; omega) (by simp; omega)
    cases m1 : decide (0 < (ten p.conf i).group) with
    | false =>
        have hx : prX rule (clash17 p.conf ps true) ps i k = [] := by unfold prX; rw [if_neg]; simp only [clash17, grpZ, gt_iff_lt, m1]; simp
        rw [hx, List.append_nil] at hK
        simp -implicitDefEqProofs only [go_sem, ir109_l0, eK, e1, e2, e8, h8, e9, e10, e7, d1, q0, q1, r0, r1, q2, r2, gi, gk, ti, tk, w1, z0, z1, hr, ci, ck, ci0, ck0, n1, n2, m1]
        refine .next hlt ⟨ov, ?_, ?_, ?_, ?_, ?_, ?_, ?_, ?_, by omega⟩ <;> (try simp -implicitDefEqProofs only [go_sem, e1, e2, e8, h8, e9, e7, w1, eK])
        rw [hK]; exact ho
    | true =>
      cases m2 : ((ten p.conf i).group == (ten p.conf k).group) with
      | false =>
          have hx : prX rule (clash17 p.conf ps true) ps i k = [] := by unfold prX; rw [if_neg]; simp only [clash17, grpZ, gt_iff_lt, m1, m2]; simp
          rw [hx, List.append_nil] at hK
          simp -implicitDefEqProofs only [go_sem, ir109_l0, eK, e1, e2, e8, h8, e9, e10, e7, d1, q0, q1, r0, r1, q2, r2, gi, gk, ti, tk, w1, z0, z1, hr, ci, ck, ci0, ck0, n1, n2, m1, m2]
          refine .next hlt ⟨ov, ?_, ?_, ?_, ?_, ?_, ?_, ?_, ?_, by omega⟩ <;> (try simp -implicitDefEqProofs only [go_sem, e1, e2, e8, h8, e9, e7, w1, eK])
          rw [hK]; exact ho
      | true =>
        cases m3 : ((p.conf.cells.getD (plc ps i).home.toNat ⟨0, 0⟩).zone == (p.conf.cells.getD (plc ps k).home.toNat ⟨0, 0⟩).zone) with
        | false =>
            have hx : prX rule (clash17 p.conf ps true) ps i k = [] := by unfold prX; rw [if_neg]; simp only [clash17, grpZ, gt_iff_lt, m1, m2, m3]; simp
            rw [hx, List.append_nil] at hK
            simp -implicitDefEqProofs only [go_sem, ir109_l0, eK, e1, e2, e8, h8, e9, e10, e7, d1, q0, q1, r0, r1, q2, r2, gi, gk, ti, tk, w1, z0, z1, hr, ci, ck, ci0, ck0, n1, n2, m1, m2, m3]
            refine .next hlt ⟨ov, ?_, ?_, ?_, ?_, ?_, ?_, ?_, ?_, by omega⟩ <;> (try simp -implicitDefEqProofs only [go_sem, e1, e2, e8, h8, e9, e7, w1, eK])
            rw [hK]; exact ho
        | true =>
            have hx : prX rule (clash17 p.conf ps true) ps i k = [⟨rule, i, k, (plc ps k).home, -1⟩] := by unfold prX; rw [if_pos ⟨g1, g2, by simp only [clash17, grpZ, gt_iff_lt, m1, m2, m3]; simp⟩]
            rw [hx] at hK
            simp -implicitDefEqProofs only [go_sem, ir109_l0, eK, e1, e2, e8, h8, e9, e10, e7, d1, q0, q1, r0, r1, q2, r2, gi, gk, ti, tk, w1, z0, z1, hr, ci, ck, ci0, ck0, n1, n2, m1, m2, m3, vpS BR rfl, A.1]
            obtain ⟨_, hA, hfr⟩ := A
            have h8' := hfr 8 (by decide)
            rw [hg_hs, if_neg (by decide), h8] at h8'
            generalize apP 5 40 0 (some 125) _ ov _ = r at hA h8' ⊢
            refine .next hlt ⟨r.1, ?_, ?_, ?_, ?_, ?_, ?_, ?_, ?_, by omega⟩ <;> (try simp -implicitDefEqProofs only [go_sem, e1, e2, e8, h8', e9, w1, eK])
            rw [hK, ← List.append_assoc, List.map_append]; exact hA
theorem rpairs_sTtf (p : Prob) (ps : List Plc) (hfit : FitP p.conf ps) (rule : Int) (hr : (rule == 6) = true) (B : List Brk) (hB : B.length ≤ 10000) (i : Nat) (hi : i < ps.length) (hps : ps.length ≤ 100) (k : Nat) (hlt : k < i) (w : VSt) (hI : L109i p.conf ps rule true B i k w) (n1 : (ten p.conf i).noisy = true) (n2 : (ten p.conf k).noisy = false) : Ok (R PP shF 0 127 ir109_l0 w) (StepUp i (L109i p.conf ps rule true B i) (fun e w => e = .exit 2 ∧ L109i p.conf ps rule true B i i w) k) := by
  obtain ⟨E, H⟩ := w
  obtain ⟨ov, e1, e2, e8, h8, e9, e10, e7, ho, hk⟩ := hI
  simp only at e1 e2 e8 h8 e9 e10 e7 ho
  have hpt := hfit.1
  have w1 : IntKind.wrap .i64 ((k : Int) + 1) = ((k + 1 : Nat) : Int) := by rw [w64 (by omega) (by omega)]; rfl
  · have d1 : decide ((k : Int) < (i : Int)) = true := decide_eq_true (by omega)
    have q0 : (0 : Int) ≤ (k : Int) := by omega
    have q1 : (k : Int) < (ps.length : Int) := by omega
    have r0 : (0 : Int) ≤ (i : Int) := by omega
    have r1 : (i : Int) < (ps.length : Int) := by omega
    have q2 : (k : Int) < (p.conf.tens.length : Int) := by omega
    have r2 : (i : Int) < (p.conf.tens.length : Int) := by omega
    have gk : ps[k]? = some (plc ps k) := getD_at (by omega)
    have gi : ps[i]? = some (plc ps i) := getD_at (by omega)
    have tk : p.conf.tens[k]? = some (ten p.conf k) := getD_at (l := p.conf.tens) (i := k) (d := ⟨0, 0, 0, 0, 0, 0, false⟩) (by omega)
    have ti : p.conf.tens[i]? = some (ten p.conf i) := getD_at (l := p.conf.tens) (i := i) (d := ⟨0, 0, 0, 0, 0, 0, false⟩) (by omega)
    have oi := hfit.2 _ (List.mem_of_getElem? gi)
    have ok := hfit.2 _ (List.mem_of_getElem? gk)
    have oi0 := oi.h0
    have oi1 := oi.h1
    have ok0 := ok.h0
    have ok1 := ok.h1
    have hl := prK_len rule (clash17 p.conf ps true) ps i k
    have hK : prK rule (clash17 p.conf ps true) ps i (k + 1) = prK rule (clash17 p.conf ps true) ps i k ++ prX rule (clash17 p.conf ps true) ps i k := rfl
    by_cases g1 : (plc ps i).home = -1
    · have z0 : decide ((plc ps i).home < 0) = true := decide_eq_true (by omega)
      have hx : prX rule (clash17 p.conf ps true) ps i k = [] := by unfold prX; rw [if_neg]; simp [g1]
      rw [hx, List.append_nil] at hK
      simp -implicitDefEqProofs only [go_sem, ir109_l0, eK, e1, e2, e8, h8, e9, e10, e7, d1, q0, q1, r0, r1, q2, r2, gi, gk, ti, tk, w1, z0]
      refine .next hlt ⟨ov, ?_, ?_, ?_, ?_, ?_, ?_, ?_, ?_, by omega⟩ <;> (try simp -implicitDefEqProofs only [go_sem, e1, e2, e8, h8, e9, e7, w1, eK])
      rw [hK]; exact ho
    have z0 : decide ((plc ps i).home < 0) = false := decide_eq_false (by omega)
    by_cases g2 : (plc ps k).home = -1
    · have z1 : decide ((plc ps k).home < 0) = true := decide_eq_true (by omega)
      have hx : prX rule (clash17 p.conf ps true) ps i k = [] := by unfold prX; rw [if_neg]; simp [g2]
      rw [hx, List.append_nil] at hK
      simp -implicitDefEqProofs only [go_sem, ir109_l0, eK, e1, e2, e8, h8, e9, e10, e7, d1, q0, q1, r0, r1, q2, r2, gi, gk, ti, tk, w1, z0, z1]
      refine .next hlt ⟨ov, ?_, ?_, ?_, ?_, ?_, ?_, ?_, ?_, by omega⟩ <;> (try simp -implicitDefEqProofs only [go_sem, e1, e2, e8, h8, e9, e7, w1, eK])
      rw [hK]; exact ho
    have z1 : decide ((plc ps k).home < 0) = false := decide_eq_false (by omega)
    have ci : p.conf.cells[(plc ps i).home.toNat]? = some (p.conf.cells.getD (plc ps i).home.toNat ⟨0, 0⟩) := getD_at (by omega)
    have ck : p.conf.cells[(plc ps k).home.toNat]? = some (p.conf.cells.getD (plc ps k).home.toNat ⟨0, 0⟩) := getD_at (by omega)
    have ci0 : (0 : Int) ≤ (plc ps i).home ∧ (plc ps i).home < (p.conf.cells.length : Int) := by omega
    have ck0 : (0 : Int) ≤ (plc ps k).home ∧ (plc ps k).home < (p.conf.cells.length : Int) := by omega
    have BR := FV_broken rule (i : Nat) (k : Nat) (plc ps k).home (-1)
    have A := (ho.hs (d := 124) (x := ⟨(hg H 124).ver + 1, 5, true, [[dI rule, dI (i : Nat), dI (k : Nat), dI (plc ps k).home, dI (-1)]]⟩) (by decide)).app (bytes := 40) (base := 0) (d := 125) (x := .ms 124 ((hg H 124).ver + 1) 0 1 1) (elems_ms1 (by rw [hg_hs, if_pos rfl]) (by decide) rfl) rfl rfl (by decide) (by simp; omega) (by simp; omega)
    cases m1 : decide (0 < (ten p.conf i).group) with
    | false =>
        have hx : prX rule (clash17 p.conf ps true) ps i k = [] := by unfold prX; rw [if_neg]; simp only [clash17, grpZ, gt_iff_lt, m1]; simp
        rw [hx, List.append_nil] at hK
        simp -implicitDefEqProofs only [go_sem, ir109_l0, eK, e1, e2, e8, h8, e9, e10, e7, d1, q0, q1, r0, r1, q2, r2, gi, gk, ti, tk, w1, z0, z1, hr, ci, ck, ci0, ck0, n1, n2, m1]
        refine .next hlt ⟨ov, ?_, ?_, ?_, ?_, ?_, ?_, ?_, ?_, by omega⟩ <;> (try simp -implicitDefEqProofs only [go_sem, e1, e2, e8, h8, e9, e7, w1, eK])
        rw [hK]; exact ho
    | true =>
      cases m2 : ((ten p.conf i).group == (ten p.conf k).group) with
      | false =>
          have hx : prX rule (clash17 p.conf ps true) ps i k = [] := by unfold prX; rw [if_neg]; simp only [clash17, grpZ, gt_iff_lt, m1, m2]; simp
          rw [hx, List.append_nil] at hK
          simp -implicitDefEqProofs only [go_sem, ir109_l0, eK, e1, e2, e8, h8, e9, e10, e7, d1, q0, q1, r0, r1, q2, r2, gi, gk, ti, tk, w1, z0, z1, hr, ci, ck, ci0, ck0, n1, n2, m1, m2]
          refine .next hlt ⟨ov, ?_, ?_, ?_, ?_, ?_, ?_, ?_, ?_, by omega⟩ <;> (try simp -implicitDefEqProofs only [go_sem, e1, e2, e8, h8, e9, e7, w1, eK])
          rw [hK]; exact ho
      | true =>
        cases m3 : ((p.conf.cells.getD (plc ps i).home.toNat ⟨0, 0⟩).zone == (p.conf.cells.getD (plc ps k).home.toNat ⟨0, 0⟩).zone) with
        | false =>
            have hx : prX rule (clash17 p.conf ps true) ps i k = [] := by unfold prX; rw [if_neg]; simp only [clash17, grpZ, gt_iff_lt, m1, m2, m3]; simp
            rw [hx, List.append_nil] at hK
            simp -implicitDefEqProofs only [go_sem, ir109_l0, eK, e1, e2, e8, h8, e9, e10, e7, d1, q0, q1, r0, r1, q2, r2, gi, gk, ti, tk, w1, z0, z1, hr, ci, ck, ci0, ck0, n1, n2, m1, m2, m3]
            refine .next hlt ⟨ov, ?_, ?_, ?_, ?_, ?_, ?_, ?_, ?_, by omega⟩ <;> (try simp -implicitDefEqProofs only [go_sem, e1, e2, e8, h8, e9, e7, w1, eK])
            rw [hK]; exact ho
        | true =>
            have hx : prX rule (clash17 p.conf ps true) ps i k = [⟨rule, i, k, (plc ps k).home, -1⟩] := by unfold prX; rw [if_pos ⟨g1, g2, by simp only [clash17, grpZ, gt_iff_lt, m1, m2, m3]; simp⟩]
            rw [hx] at hK
            simp -implicitDefEqProofs only [go_sem, ir109_l0, eK, e1, e2, e8, h8, e9, e10, e7, d1, q0, q1, r0, r1, q2, r2, gi, gk, ti, tk, w1, z0, z1, hr, ci, ck, ci0, ck0, n1, n2, m1, m2, m3, vpS BR rfl, A.1]
            obtain ⟨_, hA, hfr⟩ := A
            have h8' := hfr 8 (by decide)
            rw [hg_hs, if_neg (by decide), h8] at h8'
            generalize apP 5 40 0 (some 125) _ ov _ = r at hA h8' ⊢
            refine .next hlt ⟨r.1, ?_, ?_, ?_, ?_, ?_, ?_, ?_, ?_, by omega⟩ <;> (try simp -implicitDefEqProofs only [go_sem, e1, e2, e8, h8', e9, w1, eK])
            rw [hK, ← List.append_assoc, List.map_append]; exact hA
theorem rpairs_sTft (p : Prob) (ps : List Plc) (hfit : FitP p.conf ps) (rule : Int) (hr : (rule == 6) = true) (B : List Brk) (hB : B.length ≤ 10000) (i : Nat) (hi : i < ps.length) (hps : ps.length ≤ 100) (k : Nat) (hlt : k < i) (w : VSt) (hI : L109i p.conf ps rule true B i k w) (n1 : (ten p.conf i).noisy = false) (n2 : (ten p.conf k).noisy = true) : Ok (R PP shF 0 127 ir109_l0 w) (StepUp i (L109i p.conf ps rule true B i) (fun e w => e = .exit 2 ∧ L109i p.conf ps rule true B i i w) k) := by
  obtain ⟨E, H⟩ := w
  obtain ⟨ov, e1, e2, e8, h8, e9, e10, e7, ho, hk⟩ := hI
  simp only at e1 e2 e8 h8 e9 e10 e7 ho
  have hpt := hfit.1
  have w1 : IntKind.wrap .i64 ((k : Int) + 1) = ((k + 1 : Nat) : Int) := by rw [w64 (by omega) (by omega)]; rfl
  · have d1 : decide ((k : Int) < (i : Int)) = true := decide_eq_true (by omega)
    have q0 : (0 : Int) ≤ (k : Int) := by omega
    have q1 : (k : Int) < (ps.length : Int) := by omega
    have r0 : (0 : Int) ≤ (i : Int) := by omega
    have r1 : (i : Int) < (ps.length : Int) := by omega
    have q2 : (k : Int) < (p.conf.tens.length : Int) := by omega
    have r2 : (i : Int) < (p.conf.tens.length : Int) := by omega
    have gk : ps[k]? = some (plc ps k) := getD_at (by omega)
    have gi : ps[i]? = some (plc ps i) := getD_at (by omega)
    have tk : p.conf.tens[k]? = some (ten p.conf k) := getD_at (l := p.conf.tens) (i := k) (d := ⟨0, 0, 0, 0, 0, 0, false⟩) (by omega)
    have ti : p.conf.tens[i]? = some (ten p.conf i) := getD_at (l := p.conf.tens) (i := i) (d := ⟨0, 0, 0, 0, 0, 0, false⟩) (by omega)
    have oi := hfit.2 _ (List.mem_of_getElem? gi)
    have ok := hfit.2 _ (List.mem_of_getElem? gk)
    have oi0 := oi.h0
    have oi1 := oi.h1
    have ok0 := ok.h0
    have ok1 := ok.h1
    have hl := prK_len rule (clash17 p.conf ps true) ps i k
    have hK : prK rule (clash17 p.conf ps true) ps i (k + 1) = prK rule (clash17 p.conf ps true) ps i k ++ prX rule (clash17 p.conf ps true) ps i k := rfl
    by_cases g1 : (plc ps i).home = -1
    · have z0 : decide ((plc ps i).home < 0) = true := decide_eq_true (by omega)
      have hx : prX rule (clash17 p.conf ps true) ps i k = [] := by unfold prX; rw [if_neg]; simp [g1]
      rw [hx, List.append_nil] at hK
      simp -implicitDefEqProofs only [go_sem, ir109_l0, eK, e1, e2, e8, h8, e9, e10, e7, d1, q0, q1, r0, r1, q2, r2, gi, gk, ti, tk, w1, z0]
      refine .next hlt ⟨ov, ?_, ?_, ?_, ?_, ?_, ?_, ?_, ?_, by omega⟩ <;> (try simp -implicitDefEqProofs only [go_sem, e1, e2, e8, h8, e9, e7, w1, eK])
      rw [hK]; exact ho
    have z0 : decide ((plc ps i).home < 0) = false := decide_eq_false (by omega)
    by_cases g2 : (plc ps k).home = -1
    · have z1 : decide ((plc ps k).home < 0) = true := decide_eq_true (by omega)
      have hx : prX rule (clash17 p.conf ps true) ps i k = [] := by unfold prX; rw [if_neg]; simp [g2]
      rw [hx, List.append_nil] at hK
      simp -implicitDefEqProofs only [go_sem, ir109_l0, eK, e1, e2, e8, h8, e9, e10, e7, d1, q0, q1, r0, r1, q2, r2, gi, gk, ti, tk, w1, z0, z1]
      refine .next hlt ⟨ov, ?_, ?_, ?_, ?_, ?_, ?_, ?_, ?_, by omega⟩ <;> (try simp -implicitDefEqProofs only [go_sem, e1, e2, e8, h8, e9, e7, w1, eK])
      rw [hK]; exact ho
    have z1 : decide ((plc ps k).home < 0) = false := decide_eq_false (by omega)
    have ci : p.conf.cells[(plc ps i).home.toNat]? = some (p.conf.cells.getD (plc ps i).home.toNat ⟨0, 0⟩) := getD_at (by omega)
    have ck : p.conf.cells[(plc ps k).home.toNat]? = some (p.conf.cells.getD (plc ps k).home.toNat ⟨0, 0⟩) := getD_at (by omega)
    have ci0 : (0 : Int) ≤ (plc ps i).home ∧ (plc ps i).home < (p.conf.cells.length : Int) := by omega
    have ck0 : (0 : Int) ≤ (plc ps k).home ∧ (plc ps k).home < (p.conf.cells.length : Int) := by omega
    have BR := FV_broken rule (i : Nat) (k : Nat) (plc ps k).home (-1)
    have A := (ho.hs (d := 124) (x := ⟨(hg H 124).ver + 1, 5, true, [[dI rule, dI (i : Nat), dI (k : Nat), dI (plc ps k).home, dI (-1)]]⟩) (by decide)).app (bytes := 40) (base := 0) (d := 125) (x := .ms 124 ((hg H 124).ver + 1) 0 1 1) (elems_ms1 (by rw [hg_hs, if_pos rfl]) (by decide) rfl) rfl rfl (by decide) (by simp; omega) (by simp; omega)
    cases m1 : decide (0 < (ten p.conf i).group) with
    | false =>
        have hx : prX rule (clash17 p.conf ps true) ps i k = [] := by unfold prX; rw [if_neg]; simp only [clash17, grpZ, gt_iff_lt, m1]; simp
        rw [hx, List.append_nil] at hK
        simp -implicitDefEqProofs only [go_sem, ir109_l0, eK, e1, e2, e8, h8, e9, e10, e7, d1, q0, q1, r0, r1, q2, r2, gi, gk, ti, tk, w1, z0, z1, hr, ci, ck, ci0, ck0, n1, n2, m1]
        refine .next hlt ⟨ov, ?_, ?_, ?_, ?_, ?_, ?_, ?_, ?_, by omega⟩ <;> (try simp -implicitDefEqProofs only [go_sem, e1, e2, e8, h8, e9, e7, w1, eK])
        rw [hK]; exact ho
    | true =>
      cases m2 : ((ten p.conf i).group == (ten p.conf k).group) with
      | false =>
          have hx : prX rule (clash17 p.conf ps true) ps i k = [] := by unfold prX; rw [if_neg]; simp only [clash17, grpZ, gt_iff_lt, m1, m2]; simp
          rw [hx, List.append_nil] at hK
          simp -implicitDefEqProofs only [go_sem, ir109_l0, eK, e1, e2, e8, h8, e9, e10, e7, d1, q0, q1, r0, r1, q2, r2, gi, gk, ti, tk, w1, z0, z1, hr, ci, ck, ci0, ck0, n1, n2, m1, m2]
          refine .next hlt ⟨ov, ?_, ?_, ?_, ?_, ?_, ?_, ?_, ?_, by omega⟩ <;> (try simp -implicitDefEqProofs only [go_sem, e1, e2, e8, h8, e9, e7, w1, eK])
          rw [hK]; exact ho
      | true =>
        cases m3 : ((p.conf.cells.getD (plc ps i).home.toNat ⟨0, 0⟩).zone == (p.conf.cells.getD (plc ps k).home.toNat ⟨0, 0⟩).zone) with
        | false =>
            have hx : prX rule (clash17 p.conf ps true) ps i k = [] := by unfold prX; rw [if_neg]; simp only [clash17, grpZ, gt_iff_lt, m1, m2, m3]; simp
            rw [hx, List.append_nil] at hK
            simp -implicitDefEqProofs only [go_sem, ir109_l0, eK, e1, e2, e8, h8, e9, e10, e7, d1, q0, q1, r0, r1, q2, r2, gi, gk, ti, tk, w1, z0, z1, hr, ci, ck, ci0, ck0, n1, n2, m1, m2, m3]
            refine .next hlt ⟨ov, ?_, ?_, ?_, ?_, ?_, ?_, ?_, ?_, by omega⟩ <;> (try simp -implicitDefEqProofs only [go_sem, e1, e2, e8, h8, e9, e7, w1, eK])
            rw [hK]; exact ho
        | true =>
            have hx : prX rule (clash17 p.conf ps true) ps i k = [⟨rule, i, k, (plc ps k).home, -1⟩] := by unfold prX; rw [if_pos ⟨g1, g2, by simp only [clash17, grpZ, gt_iff_lt, m1, m2, m3]; simp⟩]
            rw [hx] at hK
            simp -implicitDefEqProofs only [go_sem, ir109_l0, eK, e1, e2, e8, h8, e9, e10, e7, d1, q0, q1, r0, r1, q2, r2, gi, gk, ti, tk, w1, z0, z1, hr, ci, ck, ci0, ck0, n1, n2, m1, m2, m3, vpS BR rfl, A.1]
            obtain ⟨_, hA, hfr⟩ := A
            have h8' := hfr 8 (by decide)
            rw [hg_hs, if_neg (by decide), h8] at h8'
            generalize apP 5 40 0 (some 125) _ ov _ = r at hA h8' ⊢
            refine .next hlt ⟨r.1, ?_, ?_, ?_, ?_, ?_, ?_, ?_, ?_, by omega⟩ <;> (try simp -implicitDefEqProofs only [go_sem, e1, e2, e8, h8', e9, w1, eK])
            rw [hK, ← List.append_assoc, List.map_append]; exact hA
theorem rpairs_sTff (p : Prob) (ps : List Plc) (hfit : FitP p.conf ps) (rule : Int) (hr : (rule == 6) = true) (B : List Brk) (hB : B.length ≤ 10000) (i : Nat) (hi : i < ps.length) (hps : ps.length ≤ 100) (k : Nat) (hlt : k < i) (w : VSt) (hI : L109i p.conf ps rule true B i k w) (n1 : (ten p.conf i).noisy = false) (n2 : (ten p.conf k).noisy = false) : Ok (R PP shF 0 127 ir109_l0 w) (StepUp i (L109i p.conf ps rule true B i) (fun e w => e = .exit 2 ∧ L109i p.conf ps rule true B i i w) k) := by
  obtain ⟨E, H⟩ := w
  obtain ⟨ov, e1, e2, e8, h8, e9, e10, e7, ho, hk⟩ := hI
  simp only at e1 e2 e8 h8 e9 e10 e7 ho
  have hpt := hfit.1
  have w1 : IntKind.wrap .i64 ((k : Int) + 1) = ((k + 1 : Nat) : Int) := by rw [w64 (by omega) (by omega)]; rfl
  · have d1 : decide ((k : Int) < (i : Int)) = true := decide_eq_true (by omega)
    have q0 : (0 : Int) ≤ (k : Int) := by omega
    have q1 : (k : Int) < (ps.length : Int) := by omega
    have r0 : (0 : Int) ≤ (i : Int) := by omega
    have r1 : (i : Int) < (ps.length : Int) := by omega
    have q2 : (k : Int) < (p.conf.tens.length : Int) := by omega
    have r2 : (i : Int) < (p.conf.tens.length : Int) := by omega
    have gk : ps[k]? = some (plc ps k) := getD_at (by omega)
    have gi : ps[i]? = some (plc ps i) := getD_at (by omega)
    have tk : p.conf.tens[k]? = some (ten p.conf k) := getD_at (l := p.conf.tens) (i := k) (d := ⟨0, 0, 0, 0, 0, 0, false⟩) (by omega)
    have ti : p.conf.tens[i]? = some (ten p.conf i) := getD_at (l := p.conf.tens) (i := i) (d := ⟨0, 0, 0, 0, 0, 0, false⟩) (by omega)
    have oi := hfit.2 _ (List.mem_of_getElem? gi)
    have ok := hfit.2 _ (List.mem_of_getElem? gk)
    have oi0 := oi.h0
    have oi1 := oi.h1
    have ok0 := ok.h0
    have ok1 := ok.h1
    have hl := prK_len rule (clash17 p.conf ps true) ps i k
    have hK : prK rule (clash17 p.conf ps true) ps i (k + 1) = prK rule (clash17 p.conf ps true) ps i k ++ prX rule (clash17 p.conf ps true) ps i k := rfl
    by_cases g1 : (plc ps i).home = -1
    · have z0 : decide ((plc ps i).home < 0) = true := decide_eq_true (by omega)
      have hx : prX rule (clash17 p.conf ps true) ps i k = [] := by unfold prX; rw [if_neg]; simp [g1]
      rw [hx, List.append_nil] at hK
      simp -implicitDefEqProofs only [go_sem, ir109_l0, eK, e1, e2, e8, h8, e9, e10, e7, d1, q0, q1, r0, r1, q2, r2, gi, gk, ti, tk, w1, z0]
      refine .next hlt ⟨ov, ?_, ?_, ?_, ?_, ?_, ?_, ?_, ?_, by omega⟩ <;> (try simp -implicitDefEqProofs only [go_sem, e1, e2, e8, h8, e9, e7, w1, eK])
      rw [hK]; exact ho
    have z0 : decide ((plc ps i).home < 0) = false := decide_eq_false (by omega)
    by_cases g2 : (plc ps k).home = -1
    · have z1 : decide ((plc ps k).home < 0) = true := decide_eq_true (by omega)
      have hx : prX rule (clash17 p.conf ps true) ps i k = [] := by unfold prX; rw [if_neg]; simp [g2]
      rw [hx, List.append_nil] at hK
      simp -implicitDefEqProofs only [go_sem, ir109_l0, eK, e1, e2, e8, h8, e9, e10, e7, d1, q0, q1, r0, r1, q2, r2, gi, gk, ti, tk, w1, z0, z1]
      refine .next hlt ⟨ov, ?_, ?_, ?_, ?_, ?_, ?_, ?_, ?_, by omega⟩ <;> (try simp -implicitDefEqProofs only [go_sem, e1, e2, e8, h8, e9, e7, w1, eK])
      rw [hK]; exact ho
    have z1 : decide ((plc ps k).home < 0) = false := decide_eq_false (by omega)
    have ci : p.conf.cells[(plc ps i).home.toNat]? = some (p.conf.cells.getD (plc ps i).home.toNat ⟨0, 0⟩) := getD_at (by omega)
    have ck : p.conf.cells[(plc ps k).home.toNat]? = some (p.conf.cells.getD (plc ps k).home.toNat ⟨0, 0⟩) := getD_at (by omega)
    have ci0 : (0 : Int) ≤ (plc ps i).home ∧ (plc ps i).home < (p.conf.cells.length : Int) := by omega
    have ck0 : (0 : Int) ≤ (plc ps k).home ∧ (plc ps k).home < (p.conf.cells.length : Int) := by omega
    have BR := FV_broken rule (i : Nat) (k : Nat) (plc ps k).home (-1)
    have A := (ho.hs (d := 124) (x := ⟨(hg H 124).ver + 1, 5, true, [[dI rule, dI (i : Nat), dI (k : Nat), dI (plc ps k).home, dI (-1)]]⟩) (by decide)).app (bytes := 40) (base := 0) (d := 125) (x := .ms 124 ((hg H 124).ver + 1) 0 1 1) (elems_ms1 (by rw [hg_hs, if_pos rfl]) (by decide) rfl) rfl rfl (by decide) (by simp; omega) (by simp; omega)
    cases m1 : decide (0 < (ten p.conf i).group) with
    | false =>
        have hx : prX rule (clash17 p.conf ps true) ps i k = [] := by unfold prX; rw [if_neg]; simp only [clash17, grpZ, gt_iff_lt, m1]; simp
        rw [hx, List.append_nil] at hK
        simp -implicitDefEqProofs only [go_sem, ir109_l0, eK, e1, e2, e8, h8, e9, e10, e7, d1, q0, q1, r0, r1, q2, r2, gi, gk, ti, tk, w1, z0, z1, hr, ci, ck, ci0, ck0, n1, n2, m1]
        refine .next hlt ⟨ov, ?_, ?_, ?_, ?_, ?_, ?_, ?_, ?_, by omega⟩ <;> (try simp -implicitDefEqProofs only [go_sem, e1, e2, e8, h8, e9, e7, w1, eK])
        rw [hK]; exact ho
    | true =>
      cases m2 : ((ten p.conf i).group == (ten p.conf k).group) with
      | false =>
          have hx : prX rule (clash17 p.conf ps true) ps i k = [] := by unfold prX; rw [if_neg]; simp only [clash17, grpZ, gt_iff_lt, m1, m2]; simp
          rw [hx, List.append_nil] at hK
          simp -implicitDefEqProofs only [go_sem, ir109_l0, eK, e1, e2, e8, h8, e9, e10, e7, d1, q0, q1, r0, r1, q2, r2, gi, gk, ti, tk, w1, z0, z1, hr, ci, ck, ci0, ck0, n1, n2, m1, m2]
          refine .next hlt ⟨ov, ?_, ?_, ?_, ?_, ?_, ?_, ?_, ?_, by omega⟩ <;> (try simp -implicitDefEqProofs only [go_sem, e1, e2, e8, h8, e9, e7, w1, eK])
          rw [hK]; exact ho
      | true =>
        cases m3 : ((p.conf.cells.getD (plc ps i).home.toNat ⟨0, 0⟩).zone == (p.conf.cells.getD (plc ps k).home.toNat ⟨0, 0⟩).zone) with
        | false =>
            have hx : prX rule (clash17 p.conf ps true) ps i k = [] := by unfold prX; rw [if_neg]; simp only [clash17, grpZ, gt_iff_lt, m1, m2, m3]; simp
            rw [hx, List.append_nil] at hK
            simp -implicitDefEqProofs only [go_sem, ir109_l0, eK, e1, e2, e8, h8, e9, e10, e7, d1, q0, q1, r0, r1, q2, r2, gi, gk, ti, tk, w1, z0, z1, hr, ci, ck, ci0, ck0, n1, n2, m1, m2, m3]
            refine .next hlt ⟨ov, ?_, ?_, ?_, ?_, ?_, ?_, ?_, ?_, by omega⟩ <;> (try simp -implicitDefEqProofs only [go_sem, e1, e2, e8, h8, e9, e7, w1, eK])
            rw [hK]; exact ho
        | true =>
            have hx : prX rule (clash17 p.conf ps true) ps i k = [⟨rule, i, k, (plc ps k).home, -1⟩] := by unfold prX; rw [if_pos ⟨g1, g2, by simp only [clash17, grpZ, gt_iff_lt, m1, m2, m3]; simp⟩]
            rw [hx] at hK
            simp -implicitDefEqProofs only [go_sem, ir109_l0, eK, e1, e2, e8, h8, e9, e10, e7, d1, q0, q1, r0, r1, q2, r2, gi, gk, ti, tk, w1, z0, z1, hr, ci, ck, ci0, ck0, n1, n2, m1, m2, m3, vpS BR rfl, A.1]
            obtain ⟨_, hA, hfr⟩ := A
            have h8' := hfr 8 (by decide)
            rw [hg_hs, if_neg (by decide), h8] at h8'
            generalize apP 5 40 0 (some 125) _ ov _ = r at hA h8' ⊢
            refine .next hlt ⟨r.1, ?_, ?_, ?_, ?_, ?_, ?_, ?_, ?_, by omega⟩ <;> (try simp -implicitDefEqProofs only [go_sem, e1, e2, e8, h8', e9, w1, eK])
            rw [hK, ← List.append_assoc, List.map_append]; exact hA
theorem rpairs_l0 (p : Prob) (ps : List Plc) (hfit : FitP p.conf ps) (rule : Int) (r6 : Bool) (hr : (rule == 6) = r6) (B : List Brk) (hB : B.length ≤ 10000) (i : Nat) (hi : i < ps.length) (hps : ps.length ≤ 100) : ∀ k w, L109i p.conf ps rule r6 B i k w → Ok (R PP shF 0 127 (.loop ir109_l0) w) (fun e w => e = .exit 2 ∧ L109i p.conf ps rule r6 B i i w) := by
  refine Ok_up i _ fun k w hI => ?_
  by_cases hlt : k < i
  · cases r6 with
    | false => exact rpairs_sF p ps hfit rule hr B hB i hi hps k hlt w hI
    | true =>
      cases n1 : (ten p.conf i).noisy <;> cases n2 : (ten p.conf k).noisy
      · exact rpairs_sTff p ps hfit rule hr B hB i hi hps k hlt w hI n1 n2
      · exact rpairs_sTft p ps hfit rule hr B hB i hi hps k hlt w hI n1 n2
      · exact rpairs_sTtf p ps hfit rule hr B hB i hi hps k hlt w hI n1 n2
      · exact rpairs_sTtt p ps hfit rule hr B hB i hi hps k hlt w hI n1 n2
  · obtain ⟨E, H⟩ := w
    obtain ⟨ov, e1, e2, e8, h8, e9, e10, e7, ho, hk⟩ := hI
    simp only at e1 e2 e8 h8 e9 e10 e7 ho
    have hkl : k = i := by omega
    have d1 : decide ((k : Int) < (i : Int)) = false := decide_eq_false (by omega)
    simp -implicitDefEqProofs only [go_sem, ir109_l0, e9, e10, d1]
    subst hkl
    refine .exit ⟨rfl, ov, ?_, ?_, ?_, h8, ?_, ?_, ?_, ho, by omega⟩ <;> simp -implicitDefEqProofs only [go_sem, e1, e2, e8, e9, e10, e7]
def L109 (c : Conf) (ps : List Plc) (rule : Int) (r6 : Bool) (i : Nat) (w : VSt) : Prop :=
  ∃ ov : DV, gt .bad w.E 1 = .sl (ps.map eP) ∧ gt .bad w.E 2 = dI rule ∧ gt .bad w.E 8 = .mp 8 1 0 0 ∧ hg w.H 8 = ⟨1, 0, true, [eK c]⟩ ∧ gt .bad w.E 9 = dI (i : Nat) ∧ gt .bad w.E 7 = ov ∧ SlO w.H (fun b => b = 125) 5 ((prL rule (clash17 c ps r6) ps i).map eB) ov ∧ i ≤ ps.length
theorem rpairs_l1 (p : Prob) (ps : List Plc) (hfit : FitP p.conf ps) (rule : Int) (r6 : Bool) (hr : (rule == 6) = r6) (hps : ps.length ≤ 50) : ∀ i w, L109 p.conf ps rule r6 i w → Ok (R PP shF 0 127 (.loop ir109_l1) w) (fun e w => e = .exit 0 ∧ L109 p.conf ps rule r6 ps.length w) := by
  refine Ok_up ps.length _ fun i w hI => ?_
  obtain ⟨E, H⟩ := w
  obtain ⟨ov, e1, e2, e8, h8, e9, e7, ho, hk⟩ := hI
  simp only at e1 e2 e8 h8 e9 e7 ho
  have w1 : IntKind.wrap .i64 ((i : Int) + 1) = ((i + 1 : Nat) : Int) := by rw [w64 (by omega) (by omega)]; rfl
  by_cases hlt : i < ps.length
  · have d1 : decide ((i : Int) < (ps.length : Int)) = true := decide_eq_true (by omega)
    have hl := prL_len rule (clash17 p.conf ps r6) ps i
    have hl2 : i * i ≤ 50 * 50 := Nat.mul_le_mul (by omega) (by omega)
    simp -implicitDefEqProofs only [go_sem, ir109_l1, e1, e2, e8, h8, e9, e7, d1]
    refine (rpairs_l0 p ps hfit rule r6 hr (prL rule (clash17 p.conf ps r6) ps i) (by omega) i hlt (by omega) 0 _ ⟨ov, ?_, ?_, ?_, h8, ?_, ?_, ?_, ?_, by omega⟩).mono ?_ <;> (try simp -implicitDefEqProofs only [go_sem, e1, e2, e8, e9, e7])
    · simp only [prK, List.append_nil]; exact ho
    · rintro e ⟨E', H'⟩ ⟨rfl, ov', f1, f2, f8, g8, f9, f10, f7, ho', _⟩
      simp only at f1 f2 f8 g8 f9 f7 ho'
      simp -implicitDefEqProofs only [go_sem, f9, w1]
      refine .next hlt ⟨ov', ?_, ?_, ?_, g8, ?_, ?_, ho', by omega⟩ <;> simp -implicitDefEqProofs only [go_sem, f1, f2, f8, f7]
  · have hkl : i = ps.length := by omega
    have d1 : decide ((i : Int) < (ps.length : Int)) = false := decide_eq_false (by omega)
    simp -implicitDefEqProofs only [go_sem, ir109_l1, e1, e9, d1]
    subst hkl
    refine .exit ⟨rfl, ov, ?_, ?_, ?_, h8, ?_, ?_, ho, by omega⟩ <;> simp -implicitDefEqProofs only [go_sem, e1, e2, e8, e9, e7]
theorem FVF_rpairs (p : Prob) (ps : List Plc) (hfit : FitP p.conf ps) (rule : Int) (r6 : Bool) (hr : (rule == 6) = r6) (hps : ps.length ≤ 50) : FVF PP shF 109 [.agg (eQ p), .sl (ps.map eP), dI rule] (.sl ((prL rule (clash17 p.conf ps r6) ps ps.length).map eB)) := by
  refine FVF_ok (F_ok PP109 rfl ⟨by simp [ir109], by simp⟩ ?_)
  simp -implicitDefEqProofs only [go_sem, ir109, eQ]
  refine (rpairs_l1 p ps hfit rule r6 hr hps 0 _ ⟨.lit (.slice none 0 0), ?_, ?_, ?_, ?_, ?_, ?_, ?_, by omega⟩).mono ?_ <;> (try simp -implicitDefEqProofs only [go_sem, eQ])
  · exact SlO.nil rfl
  · rintro e ⟨E, H⟩ ⟨rfl, ov, f1, f2, f8, g8, f9, f7, ho, _⟩
    simp only at f7 ho
    simp -implicitDefEqProofs only [go_sem, f7, ho.frz (by decide) (closed_eB _), ho.fresh (by decide) (lits_eB _)]
/-- A list of a call, the caller's to write. -/
noncomputable def uP (g : Nat) (args : List DV) (base dst : Nat) (cl : Bool) (H : VHeap) : DV × VEff := (vpure PP shF base (some dst) g cl false H args).getD (.bad, none)
theorem u_ok {g : Nat} {args : List DV} {e : Nat} {L : List (List DV)} (h : OkF (F PP shF g args [] 0) (fun d H => ∃ b, SlB H b e L d)) (hl : L.all (fun el => el.all lit1) = true) (base dst : Nat) (cl : Bool) (H : VHeap) :
    vpure PP shF base (some dst) g cl false H args = some (uP g args base dst cl H) ∧ SlB ((uP g args base dst cl H).2.getD H) (base + dst) e L (uP g args base dst cl H).1 ∧ ∀ c, c ≠ base + dst → hg ((uP g args base dst cl H).2.getD H) c = hg H c := by
  have U := vpU h hl base dst cl H
  have e : uP g args base dst cl H = (if L = [] then (.lit (.slice none 0 0), none) else (.ms (base + dst) ((hg H (base + dst)).ver + 1) 0 L.length L.length, some (hs H (base + dst) ⟨(hg H (base + dst)).ver + 1, e, true, L⟩))) := by unfold uP; rw [U]; rfl
  rw [e]
  refine ⟨U, ?_, ?_⟩
  · split
    · rename_i hz; exact .inl ⟨hz, rfl⟩
    · rename_i hz; exact .inr ⟨hz, _, rfl, by simp only [Option.getD_some, hg_hs, ↓reduceIte]⟩
  · intro c hc
    split
    · rfl
    · simp only [Option.getD_some, hg_hs]; rw [if_neg (Ne.symm hc)]
theorem elems_SlB {H : VHeap} {b e : Nat} {L : List (List DV)} {v : DV} (h : SlB H b e L v) (he : e ≠ 0) : elems H e v = some L := by
  rcases h with ⟨rfl, rfl⟩ | ⟨_, ver, rfl, hb⟩
  · rfl
  · exact elems_ms1 hb he rfl
theorem SlO.ref {H : VHeap} {S : Nat → Prop} {e : Nat} {L : List (List DV)} {v : DV} (h : SlO H S e L v) {c : Nat} (hc : ¬ S c) : (refD1 v).contains c = false := by
  obtain ⟨b, h1, h2⟩ := h
  rcases h2 with ⟨rfl, rfl⟩ | ⟨_, ver, rfl, _⟩
  · rfl
  · have : c ≠ b := fun e => hc (by rw [e]; exact h1)
    simp [refD1, this]
theorem ones_eB (l : List Brk) : (l.map eB).all (fun el => el.length == 5 && el.all oneD) = true := by simp [List.all_eq_true, oneD]
theorem len_eB (l : List Brk) : (l.map eB).all (fun el => el.length == 5) = true := by simp [List.all_eq_true]
def S94 (b : Nat) : Prop := b = 14 ∨ b = 18 ∨ b = 65 ∨ b = 70 ∨ b = 74 ∨ b = 100 ∨ b = 151
def L94a (p : Prob) (ps : List Plc) (B : List Brk) (i : Nat) (w : VSt) : Prop :=
  ∃ ov : DV, gt .bad w.E 1 = .sl (ps.map eP) ∧ gt .bad w.E 2 = .mp 2 1 0 0 ∧ hg w.H 2 = ⟨1, 0, true, [eQ p]⟩ ∧ gt .bad w.E 6 = dI (i : Nat) ∧ gt .bad w.E 5 = ov ∧ SlO w.H S94 5 ((B ++ apL p.conf ps i).map eB) ov ∧ i ≤ ps.length
theorem rap_l0 (p : Prob) (hc : ConfOk p.conf) (ps : List Plc) (hfit : FitP p.conf ps) (B : List Brk) (hB : B.length ≤ 10000) : ∀ i w, L94a p ps B i w → Ok (R PP shF 0 153 (.loop ir94_l0) w) (fun e w => e = .exit 0 ∧ L94a p ps B ps.length w) := by
  refine Ok_up ps.length _ fun i w hI => ?_
  obtain ⟨E, H⟩ := w
  obtain ⟨ov, e1, e2, h2, e6, e5, ho, hk⟩ := hI
  simp only at e1 e2 h2 e6 e5 ho
  have ht5 := hc.t1
  have hpt := hfit.1
  have w1 : IntKind.wrap .i64 ((i : Int) + 1) = ((i + 1 : Nat) : Int) := by rw [w64 (by omega) (by omega)]; rfl
  by_cases hlt : i < ps.length
  · have d1 : decide ((i : Int) < (ps.length : Int)) = true := decide_eq_true (by omega)
    have q0 : (0 : Int) ≤ (i : Int) := by omega
    have q1 : (i : Int) < (ps.length : Int) := by omega
    have g1 : ps[i]? = some (plc ps i) := getD_at hlt
    have hl := apL_len p.conf ps i
    have hK : apL p.conf ps (i + 1) = apL p.conf ps i ++ apX p.conf (i : Nat) (plc ps i) := rfl
    have ok := hfit.2 _ (List.mem_of_getElem? g1)
    have o0 := ok.h0
    have o1 := ok.h1
    have o2 := ok.s0
    have o3 := ok.s1
    generalize plc ps i = x at *
    have B1 := FV_region17 p hc x.home
    have B2 := FV_region17 p hc x.sby
    by_cases c0 : 0 ≤ x.home
    case neg =>
      have z0 : decide (0 ≤ x.home) = false := decide_eq_false c0
      have hx : apX p.conf (i : Nat) x = [] := by unfold apX; rw [if_neg (fun h => h.1 (by omega))]
      rw [hx, List.append_nil] at hK
      simp -implicitDefEqProofs only [go_sem, ir94_l0, eQ, eK, e1, e2, h2, e6, e5, d1, q0, q1, g1, w1, z0]
      refine .next hlt ⟨ov, ?_, ?_, ?_, ?_, ?_, ?_, by omega⟩ <;> (try simp -implicitDefEqProofs only [go_sem, e1, e2, h2, e5, w1, eQ])
      rw [hK]; exact ho
    have z0 : decide (0 ≤ x.home) = true := decide_eq_true c0
    by_cases c1 : 0 ≤ x.sby
    case neg =>
      have z1 : decide (0 ≤ x.sby) = false := decide_eq_false c1
      have hx : apX p.conf (i : Nat) x = [] := by unfold apX; rw [if_neg (fun h => h.2.1 (by omega))]
      rw [hx, List.append_nil] at hK
      simp -implicitDefEqProofs only [go_sem, ir94_l0, eQ, eK, e1, e2, h2, e6, e5, d1, q0, q1, g1, w1, z0, z1]
      refine .next hlt ⟨ov, ?_, ?_, ?_, ?_, ?_, ?_, by omega⟩ <;> (try simp -implicitDefEqProofs only [go_sem, e1, e2, h2, e5, w1, eQ])
      rw [hK]; exact ho
    have z1 : decide (0 ≤ x.sby) = true := decide_eq_true c1
    have hr1 := hc.regOf c0 o1
    have hr2 := hc.regOf c1 o3
    have hap : apartB p.conf x.home x.sby = (regOf p.conf x.home != regOf p.conf x.sby) := by unfold apartB; rw [decide_eq_true hr1.1, decide_eq_true hr2.1]; rfl
    cases c2 : (regOf p.conf x.home == regOf p.conf x.sby) with
    | false =>
      have hx : apX p.conf (i : Nat) x = [] := by unfold apX; rw [if_neg (fun h => by have := h.2.2; rw [hap] at this; unfold bne at this; rw [c2] at this; simp at this)]
      rw [hx, List.append_nil] at hK
      simp -implicitDefEqProofs only [go_sem, ir94_l0, eQ, eK, e1, e2, h2, e6, e5, d1, q0, q1, g1, w1, z0, z1, vpS B1 rfl, vpS B2 rfl, c2]
      refine .next hlt ⟨ov, ?_, ?_, ?_, ?_, ?_, ?_, by omega⟩ <;> (try simp -implicitDefEqProofs only [go_sem, e1, e2, h2, e5, w1, eQ])
      rw [hK]; exact ho
    | true =>
      have hx : apX p.conf (i : Nat) x = [⟨5, i, -1, x.sby, -1⟩] := by unfold apX; rw [if_pos ⟨by omega, by omega, by rw [hap]; unfold bne; rw [c2]; rfl⟩]
      rw [hx] at hK
      have BR := FV_broken 5 (i : Nat) (-1) x.sby (-1)
      have A := (ho.hs (d := 64) (x := ⟨(hg H 64).ver + 1, 5, true, [[dI 5, dI (i : Nat), dI (-1), dI x.sby, dI (-1)]]⟩) (by unfold S94; omega)).app (bytes := 40) (base := 0) (d := 65) (x := .ms 64 ((hg H 64).ver + 1) 0 1 1) (elems_ms1 (by rw [hg_hs, if_pos rfl]) (by decide) rfl) (by unfold S94; omega) rfl (by decide) (by simp; omega) (by simp; omega)
      simp -implicitDefEqProofs only [go_sem, ir94_l0, eQ, eK, e1, e2, h2, e6, e5, d1, q0, q1, g1, w1, z0, z1, vpS B1 rfl, vpS B2 rfl, c2, vpS BR rfl, A.1]
      obtain ⟨_, hA, hfr⟩ := A
      have h2' := hfr 2 (by unfold S94; omega)
      rw [hg_hs, if_neg (by decide), h2] at h2'
      generalize apP 5 40 0 (some 65) _ ov _ = r at hA h2' ⊢
      refine .next hlt ⟨r.1, ?_, ?_, ?_, ?_, ?_, ?_, by omega⟩ <;> (try simp -implicitDefEqProofs only [go_sem, e1, e2, h2', w1, eQ])
      rw [hK, ← List.append_assoc, List.map_append]; exact hA
  · have hkl : i = ps.length := by omega
    have d1 : decide ((i : Int) < (ps.length : Int)) = false := decide_eq_false (by omega)
    simp -implicitDefEqProofs only [go_sem, ir94_l0, e1, e6, d1]
    subst hkl
    refine .exit ⟨rfl, ov, ?_, ?_, h2, ?_, ?_, ho, by omega⟩ <;> simp -implicitDefEqProofs only [go_sem, e1, e2, e6, e5]
def L94b (p : Prob) (ps : List Plc) (bk : List Int) (B : List Brk) (w : VSt) : Prop :=
  ∃ ov : DV, gt .bad w.E 1 = .sl (ps.map eP) ∧ gt .bad w.E 2 = .mp 2 1 0 0 ∧ hg w.H 2 = ⟨1, 0, true, [eQ p]⟩ ∧ gt .bad w.E 7 = dL bk ∧ gt .bad w.E 5 = ov ∧ SlO w.H S94 5 (B.map eB) ov
theorem rcap17_l1 (p : Prob) (hc : Lens p.conf) (ps : List Plc) (bk : List Int) (hbk : bk.length = p.conf.cells.length) (B : List Brk) (hB : B.length ≤ 10000) : ∀ i w, (L94b p ps bk (B ++ cpL p.conf bk i) w ∧ gt .bad w.E 8 = dI (i : Nat) ∧ i ≤ bk.length) → Ok (R PP shF 0 153 (.loop ir94_l1) w) (fun e w => e = .exit 2 ∧ L94b p ps bk (B ++ cpL p.conf bk bk.length) w) := by
  refine Ok_up bk.length (fun i w => L94b p ps bk (B ++ cpL p.conf bk i) w ∧ gt .bad w.E 8 = dI (i : Nat) ∧ i ≤ bk.length) fun i w hI => ?_
  obtain ⟨E, H⟩ := w
  obtain ⟨⟨ov, e1, e2, h2, e7, e5, ho⟩, e8, hk⟩ := hI
  simp only at e1 e2 h2 e7 e5 ho e8
  have hcc := hc.c
  have w1 : IntKind.wrap .i64 ((i : Int) + 1) = ((i + 1 : Nat) : Int) := by rw [w64 (by omega) (by omega)]; rfl
  by_cases hlt : i < bk.length
  · have d1 : decide ((i : Int) < (bk.length : Int)) = true := decide_eq_true (by omega)
    have q0 : (0 : Int) ≤ (i : Int) := by omega
    have q1 : (i : Int) < (bk.length : Int) := by omega
    have q2 : (i : Int) < (p.conf.cells.length : Int) := by omega
    have g1 := getD_at (l := bk) (i := i) (d := 0) hlt
    have g2 := getD_at (l := p.conf.cells) (i := i) (d := ⟨0, 0⟩) (by omega)
    have g3 : (p.conf.cells.getD i ⟨0, 0⟩).cap = capI p.conf i := rfl
    have hl := cpL_len p.conf bk i
    have hK : cpL p.conf bk (i + 1) = cpL p.conf bk i ++ cpX p.conf bk i := rfl
    by_cases h1 : bk.getD i 0 > capI p.conf i
    · have z0 : decide (capI p.conf i < bk.getD i 0) = true := decide_eq_true h1
      have hx : cpX p.conf bk i = [⟨8, -1, -1, i, -1⟩] := by unfold cpX; rw [if_pos h1]
      rw [hx] at hK
      have BR := FV_broken 8 (-1) (-1) (i : Nat) (-1)
      have A := (ho.hs (d := 99) (x := ⟨(hg H 99).ver + 1, 5, true, [[dI 8, dI (-1), dI (-1), dI (i : Nat), dI (-1)]]⟩) (by unfold S94; omega)).app (bytes := 40) (base := 0) (d := 100) (x := .ms 99 ((hg H 99).ver + 1) 0 1 1) (elems_ms1 (by rw [hg_hs, if_pos rfl]) (by decide) rfl) (by unfold S94; omega) rfl (by decide) (by simp; omega) (by simp; omega)
      simp -implicitDefEqProofs only [go_sem, ir94_l1, eQ, eK, e1, e2, h2, e7, e8, e5, d1, q0, q1, q2, g1, g2, g3, w1, z0, vpS BR rfl, A.1]
      obtain ⟨_, hA, hfr⟩ := A
      have h2' := hfr 2 (by unfold S94; omega)
      rw [hg_hs, if_neg (by decide), h2] at h2'
      generalize apP 5 40 0 (some 100) _ ov _ = r at hA h2' ⊢
      refine .next hlt ⟨⟨r.1, ?_, ?_, ?_, ?_, ?_, ?_⟩, ?_, by omega⟩ <;> (try simp -implicitDefEqProofs only [go_sem, e1, e2, h2', e7, w1, eQ])
      rw [hK, ← List.append_assoc, List.map_append]; exact hA
    · have z0 : decide (capI p.conf i < bk.getD i 0) = false := decide_eq_false h1
      have hx : cpX p.conf bk i = [] := by unfold cpX; rw [if_neg h1]
      rw [hx, List.append_nil] at hK
      simp -implicitDefEqProofs only [go_sem, ir94_l1, eQ, eK, e1, e2, h2, e7, e8, e5, d1, q0, q1, q2, g1, g2, g3, w1, z0]
      refine .next hlt ⟨⟨ov, ?_, ?_, ?_, ?_, ?_, ?_⟩, ?_, by omega⟩ <;> (try simp -implicitDefEqProofs only [go_sem, e1, e2, h2, e7, e5, w1, eQ])
      rw [hK]; exact ho
  · have hkl : i = bk.length := by omega
    have d1 : decide ((i : Int) < (bk.length : Int)) = false := decide_eq_false (by omega)
    simp -implicitDefEqProofs only [go_sem, ir94_l1, e7, e8, d1]
    subst hkl
    refine .exit ⟨rfl, ov, ?_, ?_, h2, ?_, ?_, ho⟩ <;> simp -implicitDefEqProofs only [go_sem, e1, e2, e7, e5]
theorem rhr_l2 (p : Prob) (hc : ConfOk p.conf) (ps : List Plc) (bk ex : List Int) (hbk : bk.length = p.conf.cells.length) (hex : ex.length = p.conf.cells.length) (bd1 : ∀ j : Nat, 0 ≤ bk.getD j 0 ∧ bk.getD j 0 ≤ 1000) (bd2 : ∀ j : Nat, 0 ≤ ex.getD j 0 ∧ ex.getD j 0 ≤ 1000) (B : List Brk) (hB : B.length ≤ 10000) (r : Nat) :
    ∀ i w, (L94b p ps bk (B ++ hrK p.conf bk ex (r : Nat) i) w ∧ gt .bad w.E 9 = dI (r : Nat) ∧ gt .bad w.E 10 = dL ex ∧ gt .bad w.E 11 = dI (i : Nat) ∧ i ≤ bk.length) → Ok (R PP shF 0 153 (.loop ir94_l2) w) (fun e w => e = .exit 6 ∧ L94b p ps bk (B ++ hrK p.conf bk ex (r : Nat) bk.length) w ∧ gt .bad w.E 9 = dI (r : Nat)) := by
  refine Ok_up bk.length (fun i w => L94b p ps bk (B ++ hrK p.conf bk ex (r : Nat) i) w ∧ gt .bad w.E 9 = dI (r : Nat) ∧ gt .bad w.E 10 = dL ex ∧ gt .bad w.E 11 = dI (i : Nat) ∧ i ≤ bk.length) fun i w hI => ?_
  obtain ⟨E, H⟩ := w
  obtain ⟨⟨ov, e1, e2, h2, e7, e5, ho⟩, e9, e10, e11, hk⟩ := hI
  simp only at e1 e2 h2 e7 e5 ho e9 e10 e11
  have hcc := hc.lens.c
  have w1 : IntKind.wrap .i64 ((i : Int) + 1) = ((i + 1 : Nat) : Int) := by rw [w64 (by omega) (by omega)]; rfl
  by_cases hlt : i < bk.length
  · have d1 : decide ((i : Int) < (bk.length : Int)) = true := decide_eq_true (by omega)
    have q0 : (0 : Int) ≤ (i : Int) := by omega
    have q1 : (i : Int) < (bk.length : Int) := by omega
    have q1' : (i : Int) < (ex.length : Int) := by omega
    have q2 : (i : Int) < (p.conf.cells.length : Int) := by omega
    have g1 := getD_at (l := bk) (i := i) (d := 0) hlt
    have g1' := getD_at (l := ex) (i := i) (d := 0) (by omega)
    have g2 := getD_at (l := p.conf.cells) (i := i) (d := ⟨0, 0⟩) (by omega)
    have g3 : (p.conf.cells.getD i ⟨0, 0⟩).cap = capI p.conf i := rfl
    have b1 := bd1 i
    have b2 := bd2 i
    have w2 : IntKind.wrap .i64 (bk.getD i 0 + ex.getD i 0) = bk.getD i 0 + ex.getD i 0 := w64 (by omega) (by omega)
    have hl := hrK_len p.conf bk ex (r : Nat) i
    have hK : hrK p.conf bk ex (r : Nat) (i + 1) = hrK p.conf bk ex (r : Nat) i ++ hrX p.conf bk ex (r : Nat) i := rfl
    have R1 := FV_region17 p hc (i : Nat)
    have hr1 := hc.regOf (i := (i : Int)) (by omega) (by omega)
    have hin : insideB p.conf (i : Nat) (r : Nat) = (regOf p.conf (i : Nat) == (r : Nat)) := by unfold insideB; rw [decide_eq_true hr1.1]; rfl
    cases c1 : (regOf p.conf (i : Nat) == ((r : Nat) : Int)) with
    | true =>
      have c1' : (regOf p.conf (i : Nat) != ((r : Nat) : Int)) = false := by unfold bne; rw [c1]; rfl
      have hx : hrX p.conf bk ex (r : Nat) i = [] := by unfold hrX; rw [if_neg (by rw [hin, c1]; simp)]
      rw [hx, List.append_nil] at hK
      simp -implicitDefEqProofs only [go_sem, ir94_l2, eQ, eK, e1, e2, h2, e7, e9, e10, e11, e5, d1, q0, q1, q1', q2, g1, g1', g2, g3, w1, w2, vpS R1 rfl, c1']
      refine .next hlt ⟨⟨ov, ?_, ?_, ?_, ?_, ?_, ?_⟩, ?_, ?_, ?_, by omega⟩ <;> (try simp -implicitDefEqProofs only [go_sem, e1, e2, h2, e7, e5, e9, e10, w1, eQ])
      rw [hK]; exact ho
    | false =>
      have c1' : (regOf p.conf (i : Nat) != ((r : Nat) : Int)) = true := by unfold bne; rw [c1]; rfl
      by_cases h1 : bk.getD i 0 + ex.getD i 0 > capI p.conf i
      · have z0 : decide (capI p.conf i < bk.getD i 0 + ex.getD i 0) = true := decide_eq_true h1
        have hx : hrX p.conf bk ex (r : Nat) i = [⟨9, -1, -1, i, r⟩] := by unfold hrX; rw [if_pos ⟨by rw [hin, c1], h1⟩]
        rw [hx] at hK
        have BR := FV_broken 9 (-1) (-1) (i : Nat) (r : Nat)
        have A := (ho.hs (d := 150) (x := ⟨(hg H 150).ver + 1, 5, true, [[dI 9, dI (-1), dI (-1), dI (i : Nat), dI (r : Nat)]]⟩) (by unfold S94; omega)).app (bytes := 40) (base := 0) (d := 151) (x := .ms 150 ((hg H 150).ver + 1) 0 1 1) (elems_ms1 (by rw [hg_hs, if_pos rfl]) (by decide) rfl) (by unfold S94; omega) rfl (by decide) (by simp; omega) (by simp; omega)
        simp -implicitDefEqProofs only [go_sem, ir94_l2, eQ, eK, e1, e2, h2, e7, e9, e10, e11, e5, d1, q0, q1, q1', q2, g1, g1', g2, g3, w1, w2, vpS R1 rfl, c1', z0, vpS BR rfl, A.1]
        obtain ⟨_, hA, hfr⟩ := A
        have h2' := hfr 2 (by unfold S94; omega)
        rw [hg_hs, if_neg (by decide), h2] at h2'
        generalize apP 5 40 0 (some 151) _ ov _ = rr at hA h2' ⊢
        refine .next hlt ⟨⟨rr.1, ?_, ?_, ?_, ?_, ?_, ?_⟩, ?_, ?_, ?_, by omega⟩ <;> (try simp -implicitDefEqProofs only [go_sem, e1, e2, h2', e7, e9, e10, w1, eQ])
        rw [hK, ← List.append_assoc, List.map_append]; exact hA
      · have z0 : decide (capI p.conf i < bk.getD i 0 + ex.getD i 0) = false := decide_eq_false h1
        have hx : hrX p.conf bk ex (r : Nat) i = [] := by unfold hrX; rw [if_neg (fun h => h1 h.2)]
        rw [hx, List.append_nil] at hK
        simp -implicitDefEqProofs only [go_sem, ir94_l2, eQ, eK, e1, e2, h2, e7, e9, e10, e11, e5, d1, q0, q1, q1', q2, g1, g1', g2, g3, w1, w2, vpS R1 rfl, c1', z0]
        refine .next hlt ⟨⟨ov, ?_, ?_, ?_, ?_, ?_, ?_⟩, ?_, ?_, ?_, by omega⟩ <;> (try simp -implicitDefEqProofs only [go_sem, e1, e2, h2, e7, e5, e9, e10, w1, eQ])
        rw [hK]; exact ho
  · have hkl : i = bk.length := by omega
    have d1 : decide ((i : Int) < (bk.length : Int)) = false := decide_eq_false (by omega)
    simp -implicitDefEqProofs only [go_sem, ir94_l2, e7, e11, d1]
    subst hkl
    refine .exit ⟨rfl, ⟨ov, ?_, ?_, h2, ?_, ?_, ho⟩, ?_⟩ <;> simp -implicitDefEqProofs only [go_sem, e1, e2, e7, e5, e9]
theorem rhr_l3 (p : Prob) (hc : ConfOk p.conf) (ps : List Plc) (hfit : FitP p.conf ps) (bk : List Int) (hbk : bk.length = p.conf.cells.length) (bd1 : ∀ j : Nat, 0 ≤ bk.getD j 0 ∧ bk.getD j 0 ≤ 1000) (B : List Brk) (hB : B.length ≤ 1000) (hh : p.head = true) (R' : Nat) (hR : (R' : Int) = p.conf.regions) :
    ∀ r w, (L94b p ps bk (B ++ hrL p.conf bk ps r) w ∧ gt .bad w.E 9 = dI (r : Nat) ∧ r ≤ R') → Ok (R PP shF 0 153 (.loop ir94_l3) w) (fun e w => e = .exit 4 ∧ L94b p ps bk (B ++ hrL p.conf bk ps R') w) := by
  refine Ok_up R' (fun r w => L94b p ps bk (B ++ hrL p.conf bk ps r) w ∧ gt .bad w.E 9 = dI (r : Nat) ∧ r ≤ R') fun r w hI => ?_
  obtain ⟨E, H⟩ := w
  obtain ⟨⟨ov, e1, e2, h2, e7, e5, ho⟩, e9, hk⟩ := hI
  simp only at e1 e2 h2 e7 e5 ho e9
  have hr3 := hc.r1
  have hc7 := hc.c1
  have ht5 := hc.t1
  have hpt := hfit.1
  have w1 : IntKind.wrap .i64 ((r : Int) + 1) = ((r + 1 : Nat) : Int) := by rw [w64 (by omega) (by omega)]; rfl
  by_cases hlt : r < R'
  · have d1 : decide ((r : Int) < p.conf.regions) = true := decide_eq_true (by omega)
    have hl := hrL_len p.conf bk ps r
    have hl2 : r * p.conf.cells.length ≤ 3 * 7 := Nat.mul_le_mul (by omega) hc7
    have X := FVF_rExtra p hc ps hfit (r : Nat)
    have xl := extra_len p.conf ps (r : Nat) ps.length
    have xb := extra_bd hc ps (r : Nat) ps.length (by omega)
    have hL : hrL p.conf bk ps (r + 1) = hrL p.conf bk ps r ++ hrK p.conf bk (extra p.conf ps (r : Nat) ps.length) (r : Nat) p.conf.cells.length := rfl
    have key := rhr_l2 p hc ps bk (extra p.conf ps (r : Nat) ps.length) hbk xl bd1 (fun j => by have := xb j; omega) (B ++ hrL p.conf bk ps r) (by simp; omega) r 0
    generalize extra p.conf ps (r : Nat) ps.length = ex at *
    simp only [eQ, hh] at X h2
    simp -implicitDefEqProofs only [go_sem, ir94_l3, eQ, e1, e2, h2, e7, e5, e9, d1, hh, vpF X rfl]
    refine (key _ ⟨⟨ov, ?_, ?_, ?_, ?_, ?_, ?_⟩, ?_, ?_, ?_, by omega⟩).mono ?_ <;> (try simp -implicitDefEqProofs only [go_sem, e1, e2, h2, e7, e5, e9, eQ])
    · rw [hh]
    · simp only [hrK, List.append_nil]; exact ho
    · rintro e ⟨E', H'⟩ ⟨rfl, ⟨ov', f1, f2, g2, f7, f5, ho'⟩, f9⟩
      simp only at f1 f2 g2 f7 f5 ho' f9
      simp -implicitDefEqProofs only [go_sem, f9, w1]
      refine .next hlt ⟨⟨ov', ?_, ?_, g2, ?_, ?_, ?_⟩, ?_, by omega⟩ <;> (try simp -implicitDefEqProofs only [go_sem, f1, f2, f7, f5])
      rw [hL, ← List.append_assoc, ← hbk]
      exact ho'
  · have hkl : r = R' := by omega
    have d1 : decide ((r : Int) < p.conf.regions) = false := decide_eq_false (by omega)
    simp -implicitDefEqProofs only [go_sem, ir94_l3, eQ, e2, h2, e9, d1]
    subst hkl
    refine .exit ⟨rfl, ov, ?_, ?_, h2, ?_, ?_, ho⟩ <;> simp -implicitDefEqProofs only [go_sem, e1, e2, e7, e5]
theorem rhr_l3f (p : Prob) (hc : ConfOk p.conf) (ps : List Plc) (bk : List Int) (B : List Brk) (hh : p.head = false) (w : VSt) (hI : L94b p ps bk B w ∧ gt .bad w.E 9 = dI 0) : Ok (R PP shF 0 153 (.loop ir94_l3) w) (fun e w => e = .exit 4 ∧ L94b p ps bk B w) := by
  obtain ⟨E, H⟩ := w
  obtain ⟨⟨ov, e1, e2, h2, e7, e5, ho⟩, e9⟩ := hI
  simp only at e1 e2 h2 e7 e5 ho e9
  have hr := hc.r0
  have d1 : decide ((0 : Int) < p.conf.regions) = true := decide_eq_true (by omega)
  rw [R_loop]
  simp -implicitDefEqProofs only [go_sem, ir94_l3, eQ, e2, h2, e9, d1, hh]
  refine ⟨ov, ?_, ?_, h2, ?_, ?_, ho⟩ <;> simp -implicitDefEqProofs only [go_sem, e1, e2, e7, e5]
def rpartL (p : Prob) (ps : List Plc) : List Brk :=
  oneL 3 (hold17 p false) ps ps.length ++ oneL 4 (hold17 p true) ps ps.length ++ apL p.conf ps ps.length ++ prL 6 (clash17 p.conf ps true) ps ps.length ++ prL 7 (clash17 p.conf ps false) ps ps.length ++ cpL p.conf (booked p.conf ps ps.length) p.conf.cells.length ++ (if p.head = true then hrL p.conf (booked p.conf ps ps.length) ps p.conf.regions.toNat else [])
theorem two_lo {c : Conf} {ps : List Plc} (hfit : FitP c ps) {i : Nat} (hi : i < ps.length) (k : Nat) : -1 ≤ two2 (plc ps i) k ∧ two2 (plc ps i) k < c.cells.length := by
  have hx := hfit.2 _ (List.mem_of_getElem? (getD_at (l := ps) (i := i) (d := ⟨0, 0⟩) hi))
  have := hx.h0; have := hx.h1; have := hx.s0; have := hx.s1
  unfold two2 plc
  split <;> omega
theorem OkF_rPartial (p : Prob) (hc : ConfOk p.conf) (ps : List Plc) (hfit : FitP p.conf ps) : OkF (F PP shF 94 [.agg (eQ p), .sl (ps.map eP)] [] 0) (fun d H => SlO H S94 5 ((rpartL p ps).map eB) d) := by
  refine F_ok PP94 rfl ⟨by simp [ir94], by simp⟩ ?_
  have ht5 := hc.t1
  have hc7 := hc.c1
  have hpt := hfit.1
  have hr0 := hc.r0
  have hlo : ∀ i : Nat, i < ps.length → ∀ k, -1 ≤ two2 (plc ps i) k := fun i hi k => (two_lo hfit hi k).1
  have l1 := oneL_len 3 (hold17 p false) ps ps.length
  have l2 := oneL_len 4 (hold17 p true) ps ps.length
  have l3 := apL_len p.conf ps ps.length
  have l4 := prL_len 6 (clash17 p.conf ps true) ps ps.length
  have l5 := prL_len 7 (clash17 p.conf ps false) ps ps.length
  have l6 := cpL_len p.conf (booked p.conf ps ps.length) p.conf.cells.length
  have hsq : ps.length * ps.length ≤ 5 * 5 := Nat.mul_le_mul (by omega) (by omega)
  have O1 := OkF_single p hc ps (by omega) hlo 3 false rfl
  have O2 := OkF_single p hc ps (by omega) hlo 4 true rfl
  have U1 := u_ok O1 (lits_eB _) 0 14 true (hs [] 2 ⟨1, 0, true, [eQ p]⟩)
  have U2 := u_ok O2 (lits_eB _) 0 17 true ((uP 106 [.agg (eQ p), .sl (ps.map eP), dI 3] 0 14 true (hs [] 2 ⟨1, 0, true, [eQ p]⟩)).2.getD (hs [] 2 ⟨1, 0, true, [eQ p]⟩))
  have P1 := FVF_rpairs p ps hfit 6 true rfl (by omega)
  have P2 := FVF_rpairs p ps hfit 7 false rfl (by omega)
  have K := FVF_rBooked p hc ps (by omega)
  have bl := booked_len p.conf ps ps.length
  have bb := booked_bd hc ps ps.length (by omega)
  have ew : (rpartL p ps) = rpartL p ps := rfl
  unfold rpartL at ew ⊢
  obtain ⟨u1, a1, f1⟩ := U1
  have m1 := f1 2 (by decide)
  rw [hg_hs, if_pos rfl] at m1
  generalize hr1 : uP 106 [.agg (eQ p), .sl (ps.map eP), dI 3] 0 14 true (hs [] 2 ⟨1, 0, true, [eQ p]⟩) = r1 at *
  obtain ⟨u2, a2, f2⟩ := U2
  have m2 := f2 2 (by decide)
  rw [m1] at m2
  have a1' := a1.keep (H' := (uP 106 [.agg (eQ p), .sl (ps.map eP), dI 4] 0 17 true (r1.2.getD (hs [] 2 ⟨1, 0, true, [eQ p]⟩))).2.getD (r1.2.getD (hs [] 2 ⟨1, 0, true, [eQ p]⟩))) (f2 _ (by decide))
  generalize hr2 : uP 106 [.agg (eQ p), .sl (ps.map eP), dI 4] 0 17 true (r1.2.getD (hs [] 2 ⟨1, 0, true, [eQ p]⟩)) = r2 at *
  generalize hH2 : r2.2.getD (r1.2.getD (hs [] 2 ⟨1, 0, true, [eQ p]⟩)) = H2 at *
  have o1 : SlO H2 S94 5 ((oneL 3 (hold17 p false) ps ps.length).map eB) r1.1 := ⟨14, by unfold S94; omega, a1'⟩
  have A1 := o1.app (bytes := 40) (base := 0) (d := 18) (elems_SlB a2 (by decide)) (by unfold S94; omega) (ones_eB _) (by decide) (by simp; omega) (by simp; omega)
  simp -implicitDefEqProofs only [go_sem, ir94, eQ, u1, u2, m1, m2, hr1, hr2, hH2, A1.1]
  obtain ⟨_, a3, f3⟩ := A1
  have m3 := f3 2 (by unfold S94; omega)
  rw [m2] at m3
  generalize apP 5 40 0 (some 18) H2 r1.1 r2.1 = r3 at a3 m3 ⊢
  generalize r3.2.getD H2 = H3 at a3 m3 ⊢
  rw [← List.map_append] at a3
  refine (rap_l0 p hc ps hfit (oneL 3 (hold17 p false) ps ps.length ++ oneL 4 (hold17 p true) ps ps.length) (by simp only [List.length_append]; omega) 0 _ ⟨r3.1, ?_, ?_, ?_, ?_, ?_, ?_, by omega⟩).mono ?_ <;> (try simp -implicitDefEqProofs only [go_sem, m3])
  · simp only [apL, List.append_nil]; exact a3
  clear a1 a2 a3 o1 u1 u2 f1 f2 f3 m1 m2 m3
  rintro e ⟨E, H⟩ ⟨rfl, ov, e1, e2, h2, e6, e5, ho, _⟩
  simp only at e1 e2 h2 e5 ho
  have A2 := ho.app (bytes := 40) (base := 0) (d := 70) (x := .sl ((prL 6 (clash17 p.conf ps true) ps ps.length).map eB)) (elems_sl H (len_eB _)) (by unfold S94; omega) (ones_eB _) (by decide) (by simp; omega) (by simp; omega)
  have rf1 := ho.ref (c := 2) (by unfold S94; omega)
  obtain ⟨v2, a2, f2⟩ := A2
  have m2 := f2 2 (by unfold S94; omega)
  rw [h2] at m2
  have A3 := a2.app (bytes := 40) (base := 0) (d := 74) (x := .sl ((prL 7 (clash17 p.conf ps false) ps ps.length).map eB)) (elems_sl _ (len_eB _)) (by unfold S94; omega) (ones_eB _) (by decide) (by simp; omega) (by simp; omega)
  unfold refD1 at rf1
  simp -implicitDefEqProofs only [go_sem, eQ, e1, e2, h2, e5, vpF P1 rfl, vpF P2 rfl, v2, m2, A3.1, rf1]
  obtain ⟨_, a3, f3⟩ := A3
  have m3 := f3 2 (by unfold S94; omega)
  rw [m2] at m3
  generalize apP 5 40 0 (some 70) H ov (.sl ((prL 6 (clash17 p.conf ps true) ps ps.length).map eB)) = q1 at a2 m2 a3 m3 ⊢
  generalize apP 5 40 0 (some 74) _ _ _ = q2 at a3 m3 ⊢
  generalize q2.2.getD (q1.2.getD H) = H4 at a3 m3 ⊢
  rw [← List.map_append, ← List.map_append] at a3
  simp -implicitDefEqProofs only [go_sem, e1, e2, m3, eQ, vpF K rfl]
  refine (rcap17_l1 p hc.lens ps (booked p.conf ps ps.length) bl (oneL 3 (hold17 p false) ps ps.length ++ oneL 4 (hold17 p true) ps ps.length ++ apL p.conf ps ps.length ++ prL 6 (clash17 p.conf ps true) ps ps.length ++ prL 7 (clash17 p.conf ps false) ps ps.length) (by simp only [List.length_append]; omega) 0 _ ⟨⟨q2.1, ?_, ?_, ?_, ?_, ?_, ?_⟩, ?_, by omega⟩).mono ?_ <;> (try simp -implicitDefEqProofs only [go_sem, e1, e2, m3])
  · simp only [cpL, List.append_nil]; exact a3
  clear a2 m2 a3 m3 f2 f3 v2 e1 e2 h2 e5 e6 ho rf1
  rintro e ⟨E5, H5⟩ ⟨rfl, ov5, e1, e2, h2, e7, e5, ho⟩
  simp only at e1 e2 h2 e7 e5 ho
  rw [bl] at ho
  cases hh : p.head with
  | false =>
    simp -implicitDefEqProofs only [go_sem, ]
    refine (rhr_l3f p hc ps (booked p.conf ps ps.length) _ hh _ ⟨⟨ov5, ?_, ?_, ?_, ?_, ?_, ho⟩, ?_⟩).mono ?_ <;> (try simp -implicitDefEqProofs only [go_sem, e1, e2, h2, e7, e5])
    rintro e ⟨E6, H6⟩ ⟨rfl, ov6, g1, g2, k2, g7, g5, ho6⟩
    simp only at g5 ho6
    simp -implicitDefEqProofs only [go_sem, g5]
    simpa using ho6
  | true =>
    simp -implicitDefEqProofs only [go_sem, ]
    refine (rhr_l3 p hc ps hfit (booked p.conf ps ps.length) bl (fun j => by have := bb j; omega) ((oneL 3 (hold17 p false) ps ps.length ++ oneL 4 (hold17 p true) ps ps.length ++ apL p.conf ps ps.length ++ prL 6 (clash17 p.conf ps true) ps ps.length ++ prL 7 (clash17 p.conf ps false) ps ps.length) ++ cpL p.conf (booked p.conf ps ps.length) p.conf.cells.length) (by simp only [List.length_append]; omega) hh p.conf.regions.toNat (by omega) 0 _ ⟨⟨ov5, ?_, ?_, ?_, ?_, ?_, ?_⟩, ?_, by omega⟩).mono ?_ <;> (try simp -implicitDefEqProofs only [go_sem, e1, e2, h2, e7, e5])
    · simp only [hrL, List.append_nil]; exact ho
    rintro e ⟨E6, H6⟩ ⟨rfl, ov6, g1, g2, k2, g7, g5, ho6⟩
    simp only at g5 ho6
    simp -implicitDefEqProofs only [go_sem, g5]
    simpa using ho6
theorem oneX_congr {rule : Int} {h h' : Int → Int → Bool} {i n : Int} (e : n ≠ -1 → h i n = h' i n) : oneX rule h i n = oneX rule h' i n := by
  unfold oneX
  by_cases hn : n = -1
  · rw [if_neg (by simp [hn]), if_neg (by simp [hn])]
  · rw [e hn]
theorem oneL_congr {rule : Int} {h h' : Int → Int → Bool} {ps : List Plc} (e : ∀ i : Nat, i < ps.length → ∀ k, two2 (plc ps i) k ≠ -1 → h (i : Nat) (two2 (plc ps i) k) = h' (i : Nat) (two2 (plc ps i) k)) : ∀ n, n ≤ ps.length → oneL rule h ps n = oneL rule h' ps n
  | 0, _ => rfl
  | n + 1, hn => by
    simp only [oneL, oneK, oneL_congr e n (by omega)]
    rw [oneX_congr (e n (by omega) 0), oneX_congr (e n (by omega) 1)]
theorem prL_congr {rule : Int} {c c' : Nat → Nat → Bool} {ps : List Plc} (e : ∀ i k : Nat, i < ps.length → k < i → (plc ps i).home ≠ -1 → (plc ps k).home ≠ -1 → c i k = c' i k) : ∀ n, n ≤ ps.length → prL rule c ps n = prL rule c' ps n
  | 0, _ => rfl
  | n + 1, hn => by
    have hk : ∀ k, k ≤ n → prK rule c ps n k = prK rule c' ps n k := by
      intro k
      induction k with
      | zero => intro _; rfl
      | succ k ih =>
        intro hk
        simp only [prK, ih (by omega)]
        congr 1
        unfold prX
        by_cases h1 : (plc ps n).home = -1
        · rw [if_neg (fun h => h.1 h1), if_neg (fun h => h.1 h1)]
        · by_cases h2 : (plc ps k).home = -1
          · rw [if_neg (fun h => h.2.1 h2), if_neg (fun h => h.2.1 h2)]
          · rw [e n k (by omega) (by omega) h1 h2]
    simp only [prL, prL_congr e n (by omega), hk n (Nat.le_refl _)]
theorem part_eq {p : Prob} (hc : ConfOk p.conf) {ps : List Plc} (hfit : FitP p.conf ps) : rpartL p ps = partL p ps := by
  have hc7 := hc.c1
  have h1 : oneL 3 (hold17 p false) ps ps.length = oneL 3 (fun _ n => bit p.cells n) ps ps.length := oneL_congr (fun i hi k hk => by
    have := two_lo hfit hi k
    generalize two2 (plc ps i) k = n at *
    show has p.cells n = bit p.cells n
    unfold has
    rw [decide_eq_true (by omega), decide_eq_true (by omega)]
    rfl) _ (Nat.le_refl _)
  have h2 : oneL 4 (hold17 p true) ps ps.length = oneL 4 (fun i n => mayB p.conf i n) ps ps.length := oneL_congr (fun i hi k hk => rfl) _ (Nat.le_refl _)
  have h3 : prL 6 (clash17 p.conf ps true) ps ps.length = prL 6 (grpB p.conf ps) ps ps.length := prL_congr (fun i k hi hk a b => by
    have oi : PlcOk p.conf (plc ps i) := hfit.2 _ (List.mem_of_getElem? (getD_at (l := ps) (i := i) (d := ⟨0, 0⟩) hi))
    have ok : PlcOk p.conf (plc ps k) := hfit.2 _ (List.mem_of_getElem? (getD_at (l := ps) (i := k) (d := ⟨0, 0⟩) (by omega)))
    have e : ∀ x : Plc, PlcOk p.conf x → x.home ≠ -1 → zoneOf p.conf x.home = (p.conf.cells.getD x.home.toNat ⟨0, 0⟩).zone := by
      intro x hx hh
      have := hx.h0; have := hx.h1
      unfold zoneOf
      rw [if_pos ⟨by omega, by omega⟩]
    show grpZ p.conf ps i k = grpB p.conf ps i k
    unfold grpZ grpB
    rw [e _ oi a, e _ ok b]) _ (Nat.le_refl _)
  have h4 : prL 7 (clash17 p.conf ps false) ps ps.length = prL 7 (nsyB p.conf ps) ps ps.length := prL_congr (fun i k hi hk a b => rfl) _ (Nat.le_refl _)
  unfold rpartL partL
  rw [h1, h2, h3, h4]
theorem FVF_rPartial (p : Prob) (hc : ConfOk p.conf) (ps : List Plc) (hfit : FitP p.conf ps) : FVF PP shF 94 [.agg (eQ p), .sl (ps.map eP)] (.sl ((partL p ps).map eB)) := by
  have h := OkF_rPartial p hc ps hfit
  rw [part_eq hc hfit] at h
  exact FVF_ok (h.mono fun d H ho => ⟨ho.frz (by decide) (closed_eB _) 5, ho.fresh (by decide) (lits_eB _) 4⟩)
/-- The open places' rules. -/
def hmX (i : Nat) (x : Plc) : List Brk := if x.home = -1 then [⟨1, i, -1, -1, -1⟩] else []
def hmL (ps : List Plc) : Nat → List Brk
  | 0 => []
  | i + 1 => hmL ps i ++ hmX i (plc ps i)
def sbX (c : Conf) (i : Nat) (x : Plc) : List Brk := if x.sby = -1 ∧ singB c (i : Nat) = false then [⟨2, i, -1, -1, -1⟩] else []
def sbL (c : Conf) (ps : List Plc) : Nat → List Brk
  | 0 => []
  | i + 1 => sbL c ps i ++ sbX c i (plc ps i)
theorem hmL_len (ps : List Plc) : ∀ k, (hmL ps k).length ≤ k
  | 0 => by simp [hmL]
  | k + 1 => by
    simp only [hmL, List.length_append]; have := hmL_len ps k
    have : (hmX k (plc ps k)).length ≤ 1 := by unfold hmX; split <;> simp
    omega
theorem sbL_len (c : Conf) (ps : List Plc) : ∀ k, (sbL c ps k).length ≤ k
  | 0 => by simp [sbL]
  | k + 1 => by
    simp only [sbL, List.length_append]; have := sbL_len c ps k
    have : (sbX c k (plc ps k)).length ≤ 1 := by unfold sbX; split <;> simp
    omega
def fullL (p : Prob) (ps : List Plc) : List Brk := hmL ps ps.length ++ sbL p.conf ps ps.length ++ partL p ps
theorem partL_len {p : Prob} (hc : ConfOk p.conf) {ps : List Plc} (hfit : FitP p.conf ps) : (partL p ps).length ≤ 200 := by
  have ht5 := hc.t1
  have hc7 := hc.c1
  have hpt := hfit.1
  have hr0 := hc.r0
  have hr1 := hc.r1
  have l1 := oneL_len 3 (fun _ n => bit p.cells n) ps ps.length
  have l2 := oneL_len 4 (fun i n => mayB p.conf i n) ps ps.length
  have l3 := apL_len p.conf ps ps.length
  have l4 := prL_len 6 (grpB p.conf ps) ps ps.length
  have l5 := prL_len 7 (nsyB p.conf ps) ps ps.length
  have l6 := cpL_len p.conf (booked p.conf ps ps.length) p.conf.cells.length
  have l7 := hrL_len p.conf (booked p.conf ps ps.length) ps p.conf.regions.toNat
  have hsq : ps.length * ps.length ≤ 5 * 5 := Nat.mul_le_mul (by omega) (by omega)
  have hs2 : p.conf.regions.toNat * p.conf.cells.length ≤ 3 * 7 := Nat.mul_le_mul (by omega) hc7
  unfold partL
  simp only [List.length_append]
  split <;> simp <;> omega
def S96 (b : Nat) : Prop := b = 24 ∨ b = 47 ∨ b = 52
def L96 (p : Prob) (ps : List Plc) (B : List Brk) (w : VSt) : Prop :=
  ∃ ov : DV, gt .bad w.E 1 = .sl (ps.map eP) ∧ gt .bad w.E 2 = .mp 2 1 0 0 ∧ hg w.H 2 = ⟨1, 0, true, [eQ p]⟩ ∧ gt .bad w.E 5 = ov ∧ SlO w.H S96 5 (B.map eB) ov
theorem rfull_l0 (p : Prob) (ps : List Plc) (hfit : FitP p.conf ps) (hps : ps.length ≤ 1000) : ∀ i w, (L96 p ps (hmL ps i) w ∧ gt .bad w.E 6 = dI (i : Nat) ∧ i ≤ ps.length) → Ok (R PP shF 0 53 (.loop ir96_l0) w) (fun e w => e = .exit 0 ∧ L96 p ps (hmL ps ps.length) w) := by
  refine Ok_up ps.length (fun i w => L96 p ps (hmL ps i) w ∧ gt .bad w.E 6 = dI (i : Nat) ∧ i ≤ ps.length) fun i w hI => ?_
  obtain ⟨E, H⟩ := w
  obtain ⟨⟨ov, e1, e2, h2, e5, ho⟩, e6, hk⟩ := hI
  simp only at e1 e2 h2 e5 ho e6
  have w1 : IntKind.wrap .i64 ((i : Int) + 1) = ((i + 1 : Nat) : Int) := by rw [w64 (by omega) (by omega)]; rfl
  by_cases hlt : i < ps.length
  · have d1 : decide ((i : Int) < (ps.length : Int)) = true := decide_eq_true (by omega)
    have q0 : (0 : Int) ≤ (i : Int) := by omega
    have q1 : (i : Int) < (ps.length : Int) := by omega
    have g1 : ps[i]? = some (plc ps i) := getD_at hlt
    have hl := hmL_len ps i
    have hK : hmL ps (i + 1) = hmL ps i ++ hmX i (plc ps i) := rfl
    have ok := hfit.2 _ (List.mem_of_getElem? g1)
    have o0 := ok.h0
    by_cases h1 : (plc ps i).home = -1
    · have z0 : decide ((plc ps i).home < 0) = true := decide_eq_true (by omega)
      have hx : hmX i (plc ps i) = [⟨1, i, -1, -1, -1⟩] := by unfold hmX; rw [if_pos h1]
      rw [hx] at hK
      have BR := FV_broken 1 (i : Nat) (-1) (-1) (-1)
      have A := (ho.hs (d := 23) (x := ⟨(hg H 23).ver + 1, 5, true, [[dI 1, dI (i : Nat), dI (-1), dI (-1), dI (-1)]]⟩) (by unfold S96; omega)).app (bytes := 40) (base := 0) (d := 24) (x := .ms 23 ((hg H 23).ver + 1) 0 1 1) (elems_ms1 (by rw [hg_hs, if_pos rfl]) (by decide) rfl) (by unfold S96; omega) rfl (by decide) (by simp; omega) (by simp; omega)
      simp -implicitDefEqProofs only [go_sem, ir96_l0, e1, e2, h2, e5, e6, d1, q0, q1, g1, w1, z0, vpS BR rfl, A.1]
      obtain ⟨_, hA, hfr⟩ := A
      have h2' := hfr 2 (by unfold S96; omega)
      rw [hg_hs, if_neg (by decide), h2] at h2'
      generalize apP 5 40 0 (some 24) _ ov _ = r at hA h2' ⊢
      refine .next hlt ⟨⟨r.1, ?_, ?_, ?_, ?_, ?_⟩, ?_, by omega⟩ <;> (try simp -implicitDefEqProofs only [go_sem, e1, e2, h2', w1])
      rw [hK, List.map_append]; exact hA
    · have z0 : decide ((plc ps i).home < 0) = false := decide_eq_false (by omega)
      have hx : hmX i (plc ps i) = [] := by unfold hmX; rw [if_neg h1]
      rw [hx, List.append_nil] at hK
      simp -implicitDefEqProofs only [go_sem, ir96_l0, e1, e2, h2, e5, e6, d1, q0, q1, g1, w1, z0]
      refine .next hlt ⟨⟨ov, ?_, ?_, ?_, ?_, ?_⟩, ?_, by omega⟩ <;> (try simp -implicitDefEqProofs only [go_sem, e1, e2, h2, e5, w1])
      rw [hK]; exact ho
  · have hkl : i = ps.length := by omega
    have d1 : decide ((i : Int) < (ps.length : Int)) = false := decide_eq_false (by omega)
    simp -implicitDefEqProofs only [go_sem, ir96_l0, e1, e6, d1]
    subst hkl
    refine .exit ⟨rfl, ov, ?_, ?_, h2, ?_, ho⟩ <;> simp -implicitDefEqProofs only [go_sem, e1, e2, e5]
theorem rfull_l1 (p : Prob) (hc : ConfOk p.conf) (ps : List Plc) (hfit : FitP p.conf ps) (B : List Brk) (hB : B.length ≤ 1000) (hps : ps.length ≤ 1000) : ∀ i w, (L96 p ps (B ++ sbL p.conf ps i) w ∧ gt .bad w.E 7 = dI (i : Nat) ∧ i ≤ ps.length) → Ok (R PP shF 0 53 (.loop ir96_l1) w) (fun e w => e = .exit 2 ∧ L96 p ps (B ++ sbL p.conf ps ps.length) w) := by
  refine Ok_up ps.length (fun i w => L96 p ps (B ++ sbL p.conf ps i) w ∧ gt .bad w.E 7 = dI (i : Nat) ∧ i ≤ ps.length) fun i w hI => ?_
  obtain ⟨E, H⟩ := w
  obtain ⟨⟨ov, e1, e2, h2, e5, ho⟩, e6, hk⟩ := hI
  simp only at e1 e2 h2 e5 ho e6
  have w1 : IntKind.wrap .i64 ((i : Int) + 1) = ((i + 1 : Nat) : Int) := by rw [w64 (by omega) (by omega)]; rfl
  by_cases hlt : i < ps.length
  · have d1 : decide ((i : Int) < (ps.length : Int)) = true := decide_eq_true (by omega)
    have q0 : (0 : Int) ≤ (i : Int) := by omega
    have q1 : (i : Int) < (ps.length : Int) := by omega
    have g1 : ps[i]? = some (plc ps i) := getD_at hlt
    have hl := sbL_len p.conf ps i
    have hK : sbL p.conf ps (i + 1) = sbL p.conf ps i ++ sbX p.conf i (plc ps i) := rfl
    have ok := hfit.2 _ (List.mem_of_getElem? g1)
    have o0 := ok.s0
    have SG := FV_rSingle p ⟨by have := hc.r0; omega, by have := hc.r1; omega⟩ (i : Nat)
    rw [sing_eq hc] at SG
    by_cases h1 : (plc ps i).sby = -1
    · have z0 : decide ((plc ps i).sby < 0) = true := decide_eq_true (by omega)
      cases hs : singB p.conf (i : Nat) with
      | true =>
        rw [hs] at SG
        have hx : sbX p.conf i (plc ps i) = [] := by unfold sbX; rw [if_neg (by rw [hs]; simp)]
        rw [hx, List.append_nil] at hK
        simp -implicitDefEqProofs only [go_sem, ir96_l1, eQ, e1, e2, h2, e5, e6, d1, q0, q1, g1, w1, z0, vpS SG rfl]
        refine .next hlt ⟨⟨ov, ?_, ?_, ?_, ?_, ?_⟩, ?_, by omega⟩ <;> (try simp -implicitDefEqProofs only [go_sem, eQ, e1, e2, h2, e5, w1])
        rw [hK]; exact ho
      | false =>
        rw [hs] at SG
        have hx : sbX p.conf i (plc ps i) = [⟨2, i, -1, -1, -1⟩] := by unfold sbX; rw [if_pos ⟨h1, hs⟩]
        rw [hx] at hK
        have BR := FV_broken 2 (i : Nat) (-1) (-1) (-1)
        have A := (ho.hs (d := 46) (x := ⟨(hg H 46).ver + 1, 5, true, [[dI 2, dI (i : Nat), dI (-1), dI (-1), dI (-1)]]⟩) (by unfold S96; omega)).app (bytes := 40) (base := 0) (d := 47) (x := .ms 46 ((hg H 46).ver + 1) 0 1 1) (elems_ms1 (by rw [hg_hs, if_pos rfl]) (by decide) rfl) (by unfold S96; omega) rfl (by decide) (by simp; omega) (by simp; omega)
        simp -implicitDefEqProofs only [go_sem, ir96_l1, eQ, e1, e2, h2, e5, e6, d1, q0, q1, g1, w1, z0, vpS SG rfl, vpS BR rfl, A.1]
        obtain ⟨_, hA, hfr⟩ := A
        have h2' := hfr 2 (by unfold S96; omega)
        rw [hg_hs, if_neg (by decide), h2] at h2'
        generalize apP 5 40 0 (some 47) _ ov _ = r at hA h2' ⊢
        refine .next hlt ⟨⟨r.1, ?_, ?_, ?_, ?_, ?_⟩, ?_, by omega⟩ <;> (try simp -implicitDefEqProofs only [go_sem, eQ, e1, e2, h2', w1])
        rw [hK, ← List.append_assoc, List.map_append]; exact hA
    · have z0 : decide ((plc ps i).sby < 0) = false := decide_eq_false (by omega)
      have hx : sbX p.conf i (plc ps i) = [] := by unfold sbX; rw [if_neg (fun h => h1 h.1)]
      rw [hx, List.append_nil] at hK
      simp -implicitDefEqProofs only [go_sem, ir96_l1, eQ, e1, e2, h2, e5, e6, d1, q0, q1, g1, w1, z0]
      refine .next hlt ⟨⟨ov, ?_, ?_, ?_, ?_, ?_⟩, ?_, by omega⟩ <;> (try simp -implicitDefEqProofs only [go_sem, eQ, e1, e2, h2, e5, w1])
      rw [hK]; exact ho
  · have hkl : i = ps.length := by omega
    have d1 : decide ((i : Int) < (ps.length : Int)) = false := decide_eq_false (by omega)
    simp -implicitDefEqProofs only [go_sem, ir96_l1, e1, e6, d1]
    subst hkl
    refine .exit ⟨rfl, ov, ?_, ?_, h2, ?_, ho⟩ <;> simp -implicitDefEqProofs only [go_sem, e1, e2, e5]
theorem FVF_rFull (p : Prob) (hc : ConfOk p.conf) (ps : List Plc) (hfit : FitP p.conf ps) : FVF PP shF 96 [.agg (eQ p), .sl (ps.map eP)] (.sl ((fullL p ps).map eB)) := by
  refine FVF_ok (F_ok PP96 rfl ⟨by simp [ir96], by simp⟩ ?_)
  have ht5 := hc.t1
  have hpt := hfit.1
  have l1 := hmL_len ps ps.length
  have l2 := sbL_len p.conf ps ps.length
  have l3 := partL_len hc hfit
  have K := FVF_rPartial p hc ps hfit
  simp -implicitDefEqProofs only [go_sem, ir96, eQ]
  refine (rfull_l0 p ps hfit (by omega) 0 _ ⟨⟨.lit (.slice none 0 0), ?_, ?_, ?_, ?_, ?_⟩, ?_, by omega⟩).mono ?_ <;> (try simp -implicitDefEqProofs only [go_sem, eQ])
  · exact SlO.nil (b := 24) (by unfold S96; omega)
  rintro e ⟨E, H⟩ ⟨rfl, ov, e1, e2, h2, e5, ho⟩
  simp only at e1 e2 h2 e5 ho
  simp -implicitDefEqProofs only [go_sem, ]
  refine (rfull_l1 p hc ps hfit (hmL ps ps.length) (by omega) (by omega) 0 _ ⟨⟨ov, ?_, ?_, ?_, ?_, ?_⟩, ?_, by omega⟩).mono ?_ <;> (try simp -implicitDefEqProofs only [go_sem, e1, e2, h2, e5])
  · simp only [sbL, List.append_nil]; exact ho
  clear e1 e2 h2 e5 ho
  rintro e ⟨E, H⟩ ⟨rfl, ov, e1, e2, h2, e5, ho⟩
  simp only at e1 e2 h2 e5 ho
  have A := ho.app (bytes := 40) (base := 0) (d := 52) (x := .sl ((partL p ps).map eB)) (elems_sl H (len_eB _)) (by unfold S96; omega) (ones_eB _) (by decide) (by simp; omega) (by simp; omega)
  obtain ⟨a1, a2, _⟩ := A
  rw [← List.map_append] at a2
  simp -implicitDefEqProofs only [go_sem, eQ, e1, e2, h2, e5, vpF K rfl, a1]
  exact ⟨a2.frz (by decide) (closed_eB _) 5, a2.fresh (by decide) (lits_eB _) 4⟩
def inB (n lo hi : Int) : Bool := decide (lo ≤ n) && decide (n ≤ hi)
theorem FV_tb (n lo hi : Int) : FV PP shF 66 [dI n, dI lo, dI hi] = some (dB (inB n lo hi)) := FV_tbetween n lo hi
def limB (c : Conf) : Bool := inB c.regions 1 4 && inB (c.zones.length : Nat) 1 8 && inB (c.cells.length : Nat) 1 16 && inB (c.vers.length : Nat) 1 30 && inB (c.reps.length : Nat) 1 5 && inB (c.obs.length : Nat) 1 9 && decide ((c.tens.length : Int) ≤ 32)
theorem FV_sized (c : Conf) : FV PP shF 63 [.agg (eK c)] = some (dB (limB c)) := by
  refine FV_ok (F_ok PP63 rfl ⟨by simp [ir63], by simp⟩ ?_)
  unfold limB
  have B1 := FV_tb c.regions 1 4
  have B2 := FV_tb (c.zones.length : Nat) 1 8
  have B3 := FV_tb (c.cells.length : Nat) 1 16
  have B4 := FV_tb (c.vers.length : Nat) 1 30
  have B5 := FV_tb (c.reps.length : Nat) 1 5
  have B6 := FV_tb (c.obs.length : Nat) 1 9
  generalize inB c.regions 1 4 = b1 at *
  generalize inB (c.zones.length : Nat) 1 8 = b2 at *
  generalize inB (c.cells.length : Nat) 1 16 = b3 at *
  generalize inB (c.vers.length : Nat) 1 30 = b4 at *
  generalize inB (c.reps.length : Nat) 1 5 = b5 at *
  generalize inB (c.obs.length : Nat) 1 9 = b6 at *
  cases b1
  · simp -implicitDefEqProofs only [go_sem, ir63, eK, vpS B1 rfl]
  cases b2
  · simp -implicitDefEqProofs only [go_sem, ir63, eK, vpS B1 rfl, vpS B2 rfl]
  cases b3
  · simp -implicitDefEqProofs only [go_sem, ir63, eK, vpS B1 rfl, vpS B2 rfl, vpS B3 rfl]
  cases b4
  · simp -implicitDefEqProofs only [go_sem, ir63, eK, vpS B1 rfl, vpS B2 rfl, vpS B3 rfl, vpS B4 rfl]
  cases b5
  · simp -implicitDefEqProofs only [go_sem, ir63, eK, vpS B1 rfl, vpS B2 rfl, vpS B3 rfl, vpS B4 rfl, vpS B5 rfl]
  cases b6
  · simp -implicitDefEqProofs only [go_sem, ir63, eK, vpS B1 rfl, vpS B2 rfl, vpS B3 rfl, vpS B4 rfl, vpS B5 rfl, vpS B6 rfl]
  simp -implicitDefEqProofs only [go_sem, ir63, eK, vpS B1 rfl, vpS B2 rfl, vpS B3 rfl, vpS B4 rfl, vpS B5 rfl, vpS B6 rfl]
def allN (q : Nat → Bool) : Nat → Bool
  | 0 => true
  | k + 1 => allN q k && q k
theorem allN_false {q : Nat → Bool} {k : Nat} (h : q k = false) : ∀ n, k < n → allN q n = false
  | n + 1, hn => by
    simp only [allN]
    by_cases hk : k = n
    · rw [← hk, h, Bool.and_false]
    · rw [allN_false h n (by omega), Bool.false_and]
theorem allN_next {q : Nat → Bool} {k : Nat} (h : allN q k = true) (hq : q k = true) : allN q (k + 1) = true := by simp only [allN, h, hq, Bool.and_self]
def zonesB (c : Conf) (l : List Int) : Bool := allN (fun i => inB (l.getD i 0) 0 ((c.zones.length : Int) - 1)) l.length
def Qb (b : Bool) (t : Nat) (e : Ex) (w : VSt) : Prop := (e = .exit 0 ∧ b = true) ∨ (e = .ret ∧ b = false ∧ gt .bad w.E t = dB false)
def L79 (c : Conf) (l : List Int) (k : Nat) (w : VSt) : Prop := gt .bad w.E 7 = dL l ∧ gt .bad w.E 8 = dI (l.length : Nat) ∧ gt .bad w.E 2 = .mp 2 1 0 0 ∧ hg w.H 2 = ⟨1, 0, true, [eK c]⟩ ∧ gt .bad w.E 9 = dI (k : Nat) ∧ k ≤ l.length ∧ allN (fun i => inB (l.getD i 0) 0 ((c.zones.length : Int) - 1)) k = true
theorem zones_l0 (c : Conf) (hz : c.zones.length ≤ 1000) (l : List Int) (hl : l.length ≤ 1000) : ∀ k w, L79 c l k w → Ok (R PP shF 0 21 (.loop ir79_l0) w) (Qb (zonesB c l) 4) := by
  refine Ok_up l.length (L79 c l) fun k w hI => ?_
  obtain ⟨E, H⟩ := w
  obtain ⟨e7, e8, e2, h2, e9, hk, ha⟩ := hI
  simp only at e7 e8 e2 h2 e9
  have w1 : IntKind.wrap .i64 ((k : Int) + 1) = ((k + 1 : Nat) : Int) := by rw [w64 (by omega) (by omega)]; rfl
  have w2 : IntKind.wrap .i64 ((c.zones.length : Int) - 1) = (c.zones.length : Int) - 1 := w64 (by omega) (by omega)
  by_cases hlt : k < l.length
  · have d1 : decide ((k : Int) < (l.length : Int)) = true := by simp; omega
    have q1 : (k : Int) < (l.length : Int) := by omega
    have q0 : (0 : Int) ≤ (k : Int) := by omega
    have g1 := getD_at (l := l) (i := k) (d := 0) hlt
    have B := FV_tb (l.getD k 0) 0 ((c.zones.length : Int) - 1)
    cases hb : inB (l.getD k 0) 0 ((c.zones.length : Int) - 1) with
    | true =>
      rw [hb] at B
      simp -implicitDefEqProofs only [go_sem, ir79_l0, eK, e7, e8, e2, h2, e9, d1, q0, q1, g1, w1, w2, vpS B rfl]
      refine .next hlt ⟨?_, ?_, ?_, ?_, ?_, by omega, allN_next ha hb⟩ <;> simp -implicitDefEqProofs only [go_sem, e7, e8, e2, h2, w1, eK]
    | false =>
      rw [hb] at B
      simp -implicitDefEqProofs only [go_sem, ir79_l0, eK, e7, e8, e2, h2, e9, d1, q0, q1, g1, w1, w2, vpS B rfl]
      refine .ret (.inr ⟨rfl, allN_false hb _ hlt, ?_⟩)
      simp -implicitDefEqProofs only [go_sem, ]
  · have : k = l.length := by omega
    subst this
    have d1 : decide ((l.length : Int) < (l.length : Int)) = false := by simp
    simp -implicitDefEqProofs only [go_sem, ir79_l0, eK, e8, e9, d1]
    exact .exit (.inl ⟨rfl, ha⟩)
theorem FV_zones (c : Conf) (hz : c.zones.length ≤ 1000) (l : List Int) (hl : l.length ≤ 1000) : FV PP shF 79 [.agg (eK c), dL l] = some (dB (zonesB c l)) := by
  refine FV_ok (F_ok PP79 rfl ⟨by simp [ir79], by simp⟩ ?_)
  simp -implicitDefEqProofs only [go_sem, ir79, eK]
  refine (zones_l0 c hz l hl 0 _ ⟨?_, ?_, ?_, ?_, ?_, by omega, rfl⟩).mono ?_ <;> (try simp -implicitDefEqProofs only [go_sem, eK])
  rintro e ⟨E, H⟩ (⟨rfl, hb⟩ | ⟨rfl, hb, e4⟩)
  · simp -implicitDefEqProofs only [go_sem, hb]
  · simp only at e4
    simp -implicitDefEqProofs only [go_sem, hb, e4]
def qZ (c : Conf) (i : Nat) : Bool := inB (c.zones.getD i 0) 0 (c.regions - 1)
def qC (c : Conf) (i : Nat) : Bool := inB (c.cells.getD i ⟨0, 0⟩).zone 0 ((c.zones.length : Int) - 1) && inB (c.cells.getD i ⟨0, 0⟩).cap 1 4194304
def qV (c : Conf) (i : Nat) : Bool := decide (0 ≤ (c.vers.getD i ⟨0, 0⟩).low) && decide ((c.vers.getD i ⟨0, 0⟩).low ≤ (c.vers.getD i ⟨0, 0⟩).high) && decide ((c.vers.getD i ⟨0, 0⟩).high ≤ 30)
def firstB (c : Conf) : Bool := (c.vers.getD 0 ⟨0, 0⟩).low == 0
def placedB (c : Conf) : Bool := allN (qZ c) c.zones.length && allN (qC c) c.cells.length && zonesB c c.reps && zonesB c c.obs
def K64 (c : Conf) (w : VSt) : Prop := gt .bad w.E 1 = .mp 1 1 0 0 ∧ hg w.H 1 = ⟨1, 0, true, [eK c]⟩
def L64a (c : Conf) (k : Nat) (w : VSt) : Prop := K64 c w ∧ gt .bad w.E 8 = .sl (c.zones.map eI) ∧ gt .bad w.E 9 = dI (c.zones.length : Nat) ∧ gt .bad w.E 10 = dI (k : Nat) ∧ k ≤ c.zones.length ∧ allN (qZ c) k = true
theorem placed_l0 (c : Conf) (hc : Lens c) (hr : 1 ≤ c.regions ∧ c.regions ≤ 4) : ∀ k w, L64a c k w → Ok (R PP shF 0 54 (.loop ir64_l0) w) (fun e w => (e = .exit 0 ∧ allN (qZ c) c.zones.length = true ∧ K64 c w) ∨ (e = .ret ∧ allN (qZ c) c.zones.length = false ∧ gt .bad w.E 2 = dB false)) := by
  refine Ok_up c.zones.length (L64a c) fun k w hI => ?_
  obtain ⟨E, H⟩ := w
  obtain ⟨⟨e1, h1⟩, e8, e9, e10, hk, ha⟩ := hI
  simp only at e1 h1 e8 e9 e10
  have hz := hc.z
  have w1 : IntKind.wrap .i64 ((k : Int) + 1) = ((k + 1 : Nat) : Int) := by rw [w64 (by omega) (by omega)]; rfl
  have w2 : IntKind.wrap .i64 (c.regions - 1) = c.regions - 1 := w64 (by omega) (by omega)
  by_cases hlt : k < c.zones.length
  · have d1 : decide ((k : Int) < (c.zones.length : Int)) = true := by simp; omega
    have q1 : (k : Int) < (c.zones.length : Int) := by omega
    have q0 : (0 : Int) ≤ (k : Int) := by omega
    have g1 := getD_at (l := c.zones) (i := k) (d := 0) hlt
    have B := FV_tb (c.zones.getD k 0) 0 (c.regions - 1)
    rw [show inB (c.zones.getD k 0) 0 (c.regions - 1) = qZ c k from rfl] at B
    cases hb : qZ c k with
    | true =>
      rw [hb] at B
      simp -implicitDefEqProofs only [go_sem, ir64_l0, eK, e1, h1, e8, e9, e10, d1, q0, q1, g1, w1, w2, vpS B rfl]
      refine .next hlt ⟨⟨?_, ?_⟩, ?_, ?_, ?_, by omega, allN_next ha hb⟩ <;> simp -implicitDefEqProofs only [go_sem, e1, h1, e8, e9, w1, eK]
    | false =>
      rw [hb] at B
      simp -implicitDefEqProofs only [go_sem, ir64_l0, eK, e1, h1, e8, e9, e10, d1, q0, q1, g1, w1, w2, vpS B rfl]
      refine .ret (.inr ⟨rfl, allN_false hb _ hlt, ?_⟩)
      simp -implicitDefEqProofs only [go_sem, ]
  · have : k = c.zones.length := by omega
    subst this
    have d1 : decide ((c.zones.length : Int) < (c.zones.length : Int)) = false := by simp
    simp -implicitDefEqProofs only [go_sem, ir64_l0, eK, e9, e10, d1]
    exact .exit (.inl ⟨rfl, ha, by simp -implicitDefEqProofs only [go_sem, e1], h1⟩)
def L64b (c : Conf) (k : Nat) (w : VSt) : Prop := K64 c w ∧ gt .bad w.E 23 = .sl (c.cells.map eC) ∧ gt .bad w.E 24 = dI (c.cells.length : Nat) ∧ gt .bad w.E 25 = dI (k : Nat) ∧ k ≤ c.cells.length ∧ allN (qC c) k = true
theorem placed_l1 (c : Conf) (hc : Lens c) : ∀ k w, L64b c k w → Ok (R PP shF 0 54 (.loop ir64_l1) w) (fun e w => (e = .exit 2 ∧ allN (qC c) c.cells.length = true ∧ K64 c w) ∨ (e = .ret ∧ allN (qC c) c.cells.length = false ∧ gt .bad w.E 2 = dB false)) := by
  refine Ok_up c.cells.length (L64b c) fun k w hI => ?_
  obtain ⟨E, H⟩ := w
  obtain ⟨⟨e1, h1⟩, e23, e24, e25, hk, ha⟩ := hI
  simp only at e1 h1 e23 e24 e25
  have hz := hc.z
  have hcl := hc.c
  have w1 : IntKind.wrap .i64 ((k : Int) + 1) = ((k + 1 : Nat) : Int) := by rw [w64 (by omega) (by omega)]; rfl
  have w2 : IntKind.wrap .i64 ((c.zones.length : Int) - 1) = (c.zones.length : Int) - 1 := w64 (by omega) (by omega)
  by_cases hlt : k < c.cells.length
  · have d1 : decide ((k : Int) < (c.cells.length : Int)) = true := by simp; omega
    have q1 : (k : Int) < (c.cells.length : Int) := by omega
    have q0 : (0 : Int) ≤ (k : Int) := by omega
    have g1 := getD_at (l := c.cells) (i := k) (d := ⟨0, 0⟩) hlt
    have B1 := FV_tb (c.cells.getD k ⟨0, 0⟩).zone 0 ((c.zones.length : Int) - 1)
    have B2 := FV_tb (c.cells.getD k ⟨0, 0⟩).cap 1 4194304
    have hq : qC c k = (inB (c.cells.getD k ⟨0, 0⟩).zone 0 ((c.zones.length : Int) - 1) && inB (c.cells.getD k ⟨0, 0⟩).cap 1 4194304) := rfl
    cases x1 : inB (c.cells.getD k ⟨0, 0⟩).zone 0 ((c.zones.length : Int) - 1) with
    | true =>
      rw [x1] at B1
      cases x2 : inB (c.cells.getD k ⟨0, 0⟩).cap 1 4194304 with
      | true =>
        rw [x2] at B2
        rw [x1, x2] at hq
        simp -implicitDefEqProofs only [go_sem, ir64_l1, eK, e1, h1, e23, e24, e25, d1, q0, q1, g1, w1, w2, vpS B1 rfl, vpS B2 rfl]
        refine .next hlt ⟨⟨?_, ?_⟩, ?_, ?_, ?_, by omega, allN_next ha hq⟩ <;> simp -implicitDefEqProofs only [go_sem, e1, h1, e23, e24, w1, eK]
      | false =>
        rw [x2] at B2
        rw [x1, x2] at hq
        simp -implicitDefEqProofs only [go_sem, ir64_l1, eK, e1, h1, e23, e24, e25, d1, q0, q1, g1, w1, w2, vpS B1 rfl, vpS B2 rfl]
        refine .ret (.inr ⟨rfl, allN_false hq _ hlt, ?_⟩)
        simp -implicitDefEqProofs only [go_sem, ]
    | false =>
      rw [x1] at B1
      rw [x1] at hq
      simp -implicitDefEqProofs only [go_sem, ir64_l1, eK, e1, h1, e23, e24, e25, d1, q0, q1, g1, w1, w2, vpS B1 rfl, vpS B2 rfl]
      refine .ret (.inr ⟨rfl, allN_false hq _ hlt, ?_⟩)
      simp -implicitDefEqProofs only [go_sem, ]
  · have : k = c.cells.length := by omega
    subst this
    have d1 : decide ((c.cells.length : Int) < (c.cells.length : Int)) = false := by simp
    simp -implicitDefEqProofs only [go_sem, ir64_l1, eK, e24, e25, d1]
    exact .exit (.inl ⟨rfl, ha, by simp -implicitDefEqProofs only [go_sem, e1], h1⟩)
theorem FV_placed (c : Conf) (hc : Lens c) (hr : 1 ≤ c.regions ∧ c.regions ≤ 4) : FV PP shF 64 [.agg (eK c)] = some (dB (placedB c)) := by
  have Z1 := FV_zones c hc.z c.reps hc.p
  have Z2 := FV_zones c hc.z c.obs hc.o
  refine FV_ok (F_ok PP64 rfl ⟨by simp [ir64], by simp⟩ ?_)
  unfold placedB
  simp -implicitDefEqProofs only [go_sem, ir64, eK]
  refine (placed_l0 c hc hr 0 _ ⟨⟨?_, ?_⟩, ?_, ?_, ?_, by omega, rfl⟩).mono ?_ <;> (try simp -implicitDefEqProofs only [go_sem, eK])
  rintro e ⟨E, H⟩ (⟨rfl, hb, e1, h1⟩ | ⟨rfl, hb, e4⟩)
  · simp only at e1 h1
    simp -implicitDefEqProofs only [go_sem, eK, e1, h1, hb]
    refine (placed_l1 c hc 0 _ ⟨⟨?_, ?_⟩, ?_, ?_, ?_, by omega, rfl⟩).mono ?_ <;> (try simp -implicitDefEqProofs only [go_sem, e1, h1, eK])
    rintro e ⟨E, H⟩ (⟨rfl, hb, e1, h1⟩ | ⟨rfl, hb, e4⟩)
    · simp only at e1 h1
      generalize zonesB c c.reps = z1 at *
      generalize zonesB c c.obs = z2 at *
      cases z1
      · simp -implicitDefEqProofs only [go_sem, eK, e1, h1, hb, vpS Z1 rfl]
      · simp -implicitDefEqProofs only [go_sem, eK, e1, h1, hb, vpS Z1 rfl, vpS Z2 rfl]
    · simp only at e4
      simp -implicitDefEqProofs only [go_sem, hb, e4]
  · simp only at e4
    simp -implicitDefEqProofs only [go_sem, hb, e4]
def versB (c : Conf) : Bool := allN (qV c) c.vers.length && firstB c
def qV2 (c : Conf) (i : Nat) : Bool := qV c i && (decide (i ≠ 0) || firstB c)
def L65 (c : Conf) (k : Nat) (w : VSt) : Prop := gt .bad w.E 6 = .sl (c.vers.map eV) ∧ gt .bad w.E 7 = dI (c.vers.length : Nat) ∧ gt .bad w.E 8 = dI (k : Nat) ∧ k ≤ c.vers.length ∧ allN (qV2 c) k = true
theorem vers_l0 (c : Conf) (hc : Lens c) : ∀ k w, L65 c k w → Ok (R PP shF 0 38 (.loop ir65_l0) w) (Qb (allN (qV2 c) c.vers.length) 2) := by
  refine Ok_up c.vers.length (L65 c) fun k w hI => ?_
  obtain ⟨E, H⟩ := w
  obtain ⟨e6, e7, e8, hk, ha⟩ := hI
  simp only at e6 e7 e8
  have hv := hc.v
  have w1 : IntKind.wrap .i64 ((k : Int) + 1) = ((k + 1 : Nat) : Int) := by rw [w64 (by omega) (by omega)]; rfl
  by_cases hlt : k < c.vers.length
  · have d1 : decide ((k : Int) < (c.vers.length : Int)) = true := by simp; omega
    have q1 : (k : Int) < (c.vers.length : Int) := by omega
    have q0 : (0 : Int) ≤ (k : Int) := by omega
    have g1 := getD_at (l := c.vers) (i := k) (d := ⟨0, 0⟩) hlt
    by_cases a1 : 0 ≤ (c.vers.getD k ⟨0, 0⟩).low
    · have b1 : decide ((c.vers.getD k ⟨0, 0⟩).low < 0) = false := decide_eq_false (by omega)
      by_cases a2 : (c.vers.getD k ⟨0, 0⟩).low ≤ (c.vers.getD k ⟨0, 0⟩).high
      · have b2 : decide ((c.vers.getD k ⟨0, 0⟩).high < (c.vers.getD k ⟨0, 0⟩).low) = false := decide_eq_false (by omega)
        by_cases a3 : (c.vers.getD k ⟨0, 0⟩).high ≤ 30
        · have b3 : decide (30 < (c.vers.getD k ⟨0, 0⟩).high) = false := decide_eq_false (by omega)
          by_cases a4 : k = 0
          · have b4 : ((k : Int) == 0) = true := by simp; exact a4
            cases hf : firstB c with
            | true =>
              have b5 : ((c.vers.getD k ⟨0, 0⟩).low != 0) = false := by rw [a4]; unfold firstB at hf; simp only [bne, hf]; rfl
              have hq : qV2 c k = true := by unfold qV2 qV; rw [decide_eq_true a1, decide_eq_true a2, decide_eq_true a3, hf, Bool.or_true]; rfl
              simp -implicitDefEqProofs only [go_sem, ir65_l0, eK, e6, e7, e8, d1, q0, q1, g1, w1, b1, b2, b3, b4, b5]
              refine .next hlt ⟨?_, ?_, ?_, by omega, allN_next ha hq⟩ <;> simp -implicitDefEqProofs only [go_sem, e6, e7, w1, eK]
            | false =>
              have b5 : ((c.vers.getD k ⟨0, 0⟩).low != 0) = true := by rw [a4]; unfold firstB at hf; simp only [bne, hf]; rfl
              have hq : qV2 c k = false := by simp [qV2, hf, a4]
              simp -implicitDefEqProofs only [go_sem, ir65_l0, eK, e6, e7, e8, d1, q0, q1, g1, w1, b1, b2, b3, b4, b5]
              refine .ret (.inr ⟨rfl, allN_false hq _ hlt, ?_⟩)
              simp -implicitDefEqProofs only [go_sem, ]
          · have b4 : ((k : Int) == 0) = false := by simp; exact a4
            have hq : qV2 c k = true := by unfold qV2 qV; rw [decide_eq_true a1, decide_eq_true a2, decide_eq_true a3, decide_eq_true (show k ≠ 0 from a4), Bool.true_or]; rfl
            simp -implicitDefEqProofs only [go_sem, ir65_l0, eK, e6, e7, e8, d1, q0, q1, g1, w1, b1, b2, b3, b4]
            refine .next hlt ⟨?_, ?_, ?_, by omega, allN_next ha hq⟩ <;> simp -implicitDefEqProofs only [go_sem, e6, e7, w1, eK]
        · have b3 : decide (30 < (c.vers.getD k ⟨0, 0⟩).high) = true := decide_eq_true (by omega)
          have hq : qV2 c k = false := by unfold qV2 qV; rw [decide_eq_false a3, Bool.and_false, Bool.false_and]
          simp -implicitDefEqProofs only [go_sem, ir65_l0, eK, e6, e7, e8, d1, q0, q1, g1, w1, b1, b2, b3]
          refine .ret (.inr ⟨rfl, allN_false hq _ hlt, ?_⟩)
          simp -implicitDefEqProofs only [go_sem, ]
      · have b2 : decide ((c.vers.getD k ⟨0, 0⟩).high < (c.vers.getD k ⟨0, 0⟩).low) = true := decide_eq_true (by omega)
        have hq : qV2 c k = false := by unfold qV2 qV; rw [decide_eq_false a2, Bool.and_false, Bool.false_and, Bool.false_and]
        simp -implicitDefEqProofs only [go_sem, ir65_l0, eK, e6, e7, e8, d1, q0, q1, g1, w1, b1, b2]
        refine .ret (.inr ⟨rfl, allN_false hq _ hlt, ?_⟩)
        simp -implicitDefEqProofs only [go_sem, ]
    · have b1 : decide ((c.vers.getD k ⟨0, 0⟩).low < 0) = true := decide_eq_true (by omega)
      have hq : qV2 c k = false := by unfold qV2 qV; rw [decide_eq_false a1, Bool.false_and, Bool.false_and, Bool.false_and]
      simp -implicitDefEqProofs only [go_sem, ir65_l0, eK, e6, e7, e8, d1, q0, q1, g1, w1, b1]
      refine .ret (.inr ⟨rfl, allN_false hq _ hlt, ?_⟩)
      simp -implicitDefEqProofs only [go_sem, ]
  · have : k = c.vers.length := by omega
    subst this
    have d1 : decide ((c.vers.length : Int) < (c.vers.length : Int)) = false := by simp
    simp -implicitDefEqProofs only [go_sem, ir65_l0, eK, e7, e8, d1]
    exact .exit (.inl ⟨rfl, ha⟩)
theorem versB_eq (c : Conf) (h : c.vers.length ≠ 0) : allN (qV2 c) c.vers.length = versB c := by
  have key : ∀ n : Nat, allN (qV2 c) (n + 1) = (allN (qV c) (n + 1) && firstB c) := by
    intro n
    induction n with
    | zero => simp [allN, qV2]
    | succ n ih =>
      show (allN (qV2 c) (n + 1) && qV2 c (n + 1)) = ((allN (qV c) (n + 1) && qV c (n + 1)) && firstB c)
      rw [ih]
      have : qV2 c (n + 1) = qV c (n + 1) := by simp [qV2]
      rw [this]
      cases allN (qV c) (n + 1) <;> cases qV c (n + 1) <;> cases firstB c <;> rfl
  obtain ⟨n, hn⟩ : ∃ n, c.vers.length = n + 1 := ⟨c.vers.length - 1, by omega⟩
  unfold versB
  rw [hn]; exact key n
theorem FV_versions (c : Conf) (hc : Lens c) (h : c.vers.length ≠ 0) : FV PP shF 65 [.agg (eK c)] = some (dB (versB c)) := by
  rw [← versB_eq c h]
  refine FV_ok (F_ok PP65 rfl ⟨by simp [ir65], by simp⟩ ?_)
  simp -implicitDefEqProofs only [go_sem, ir65, eK]
  refine (vers_l0 c hc 0 _ ⟨?_, ?_, ?_, by omega, rfl⟩).mono ?_ <;> (try simp -implicitDefEqProofs only [go_sem, eK])
  rintro e ⟨E, H⟩ (⟨rfl, hb⟩ | ⟨rfl, hb, e4⟩)
  · simp -implicitDefEqProofs only [go_sem, hb]
  · simp only at e4
    simp -implicitDefEqProofs only [go_sem, hb, e4]
def evenB (c : Conf) : Bool := (c.reps.length : Int).tmod 2 == 0
def restB (c : Conf) : Bool := inB c.blast 1 16 && inB c.lease 1 1000 && inB c.bake 0 10000
def okB4 (c : Conf) : Bool := !evenB c && placedB c && versB c && restB c
def validN (c : Conf) : Int := if limB c = true then (if okB4 c = true then 0 else 1) else 2
theorem limB_facts {c : Conf} (h : limB c = true) : (1 ≤ c.regions ∧ c.regions ≤ 4) ∧ c.vers.length ≠ 0 := by
  unfold limB inB at h
  simp only [Bool.and_eq_true, decide_eq_true_eq] at h
  obtain ⟨⟨⟨⟨⟨⟨h1, _⟩, _⟩, h4⟩, _⟩, _⟩, _⟩ := h
  exact ⟨h1, by omega⟩
theorem FV_Valid (c : Conf) (hc : Lens c) : FV PP shF 30 [.agg (eK c)] = some (dI (validN c)) := by
  refine FV_ok (F_ok PP30 rfl ⟨by simp [ir30], by simp⟩ ?_)
  have B1 := FV_sized c
  have T1 := FV_tb c.blast 1 16
  have T2 := FV_tb c.lease 1 1000
  have T3 := FV_tb c.bake 0 10000
  unfold validN
  cases hl : limB c with
  | false =>
    rw [hl] at B1
    simp -implicitDefEqProofs only [go_sem, ir30, eK, vpS B1 rfl]
  | true =>
    rw [hl] at B1
    have B2 := FV_placed c hc (limB_facts hl).1
    have B3 := FV_versions c hc (limB_facts hl).2
    unfold okB4 restB
    have he : ((c.reps.length : Int).tmod 2 == 0) = evenB c := rfl
    generalize evenB c = ev at *
    generalize placedB c = pl at *
    generalize versB c = ve at *
    generalize inB c.blast 1 16 = r1 at *
    generalize inB c.lease 1 1000 = r2 at *
    generalize inB c.bake 0 10000 = r3 at *
    cases ev
    · cases pl
      · simp -implicitDefEqProofs only [go_sem, ir30, eK, vpS B1 rfl, he, vpS B2 rfl]
      · cases ve
        · simp -implicitDefEqProofs only [go_sem, ir30, eK, vpS B1 rfl, he, vpS B2 rfl, vpS B3 rfl]
        · cases r1
          · simp -implicitDefEqProofs only [go_sem, ir30, eK, vpS B1 rfl, he, vpS B2 rfl, vpS B3 rfl, vpS T1 rfl]
          · cases r2
            · simp -implicitDefEqProofs only [go_sem, ir30, eK, vpS B1 rfl, he, vpS B2 rfl, vpS B3 rfl, vpS T1 rfl, vpS T2 rfl]
            · cases r3
              · simp -implicitDefEqProofs only [go_sem, ir30, eK, vpS B1 rfl, he, vpS B2 rfl, vpS B3 rfl, vpS T1 rfl, vpS T2 rfl, vpS T3 rfl]
              · simp -implicitDefEqProofs only [go_sem, ir30, eK, vpS B1 rfl, he, vpS B2 rfl, vpS B3 rfl, vpS T1 rfl, vpS T2 rfl, vpS T3 rfl]
    · simp -implicitDefEqProofs only [go_sem, ir30, eK, vpS B1 rfl, he]
def rightB (W : Int) (t : Ten) : Bool := inB t.load 1 65536 && inB t.shadow 0 t.load && inB t.prio 0 9 && inB t.lag (-1) 1000 && (decide (1 ≤ t.allowed) && decide (t.allowed < W)) && inB t.group 0 32
def wid (c : Conf) : Int := 2 ^ c.regions.toNat
theorem wid_eq {R : Int} (h : 1 ≤ R ∧ R ≤ 4) : IntKind.wrap .i64 (1 * 2 ^ min R.toNat 64) = 2 ^ R.toNat ∧ (2 : Int) ^ R.toNat ≤ 16 ∧ (2 : Int) ≤ 2 ^ R.toNat := by
  obtain ⟨h1, h2⟩ := h
  obtain rfl | rfl | rfl | rfl : R = 1 ∨ R = 2 ∨ R = 3 ∨ R = 4 := by omega
  all_goals exact ⟨rfl, by decide, by decide⟩
theorem FV_right (c : Conf) (hr : 1 ≤ c.regions ∧ c.regions ≤ 4) (t : Ten) : FV PP shF 114 [.agg (eK c), .agg (eT t)] = some (dB (rightB (wid c) t)) := by
  obtain ⟨hs, hw1, hw2⟩ := wid_eq hr
  have nr : ¬ c.regions < 0 := by omega
  have w1 : IntKind.wrap .i64 (wid c - 1) = wid c - 1 := by unfold wid; exact w64 (by omega) (by omega)
  rw [show (2 : Int) ^ c.regions.toNat = wid c from rfl] at hs hw1 hw2
  have B1 := FV_between t.load 1 65536
  have B2 := FV_between t.shadow 0 t.load
  have B3 := FV_between t.prio 0 9
  have B4 := FV_between t.lag (-1) 1000
  have B5 := FV_between t.allowed 1 (wid c - 1)
  have B6 := FV_between t.group 0 32
  have h5 : (decide (1 ≤ t.allowed) && decide (t.allowed ≤ wid c - 1)) = (decide (1 ≤ t.allowed) && decide (t.allowed < wid c)) := by
    congr 1
    rw [Bool.eq_iff_iff]
    simp only [decide_eq_true_eq]
    omega
  rw [h5] at B5
  refine FV_ok (F_ok PP114 rfl ⟨by simp [ir114], by simp⟩ ?_)
  unfold rightB inB
  generalize (decide (1 ≤ t.load) && decide (t.load ≤ 65536)) = r1 at *
  generalize (decide (0 ≤ t.shadow) && decide (t.shadow ≤ t.load)) = r2 at *
  generalize (decide (0 ≤ t.prio) && decide (t.prio ≤ 9)) = r3 at *
  generalize (decide (-1 ≤ t.lag) && decide (t.lag ≤ 1000)) = r4 at *
  generalize (decide (1 ≤ t.allowed) && decide (t.allowed < wid c)) = r5 at *
  generalize (decide (0 ≤ t.group) && decide (t.group ≤ 32)) = r6 at *
  cases r1
  · simp -implicitDefEqProofs only [go_sem, ir114, eK, nr, hs, w1, vpS B1 rfl]
  cases r2
  · simp -implicitDefEqProofs only [go_sem, ir114, eK, nr, hs, w1, vpS B1 rfl, vpS B2 rfl]
  cases r3
  · simp -implicitDefEqProofs only [go_sem, ir114, eK, nr, hs, w1, vpS B1 rfl, vpS B2 rfl, vpS B3 rfl]
  cases r4
  · simp -implicitDefEqProofs only [go_sem, ir114, eK, nr, hs, w1, vpS B1 rfl, vpS B2 rfl, vpS B3 rfl, vpS B4 rfl]
  cases r5
  · simp -implicitDefEqProofs only [go_sem, ir114, eK, nr, hs, w1, vpS B1 rfl, vpS B2 rfl, vpS B3 rfl, vpS B4 rfl, vpS B5 rfl]
  cases r6
  · simp -implicitDefEqProofs only [go_sem, ir114, eK, nr, hs, w1, vpS B1 rfl, vpS B2 rfl, vpS B3 rfl, vpS B4 rfl, vpS B5 rfl, vpS B6 rfl]
  simp -implicitDefEqProofs only [go_sem, ir114, eK, nr, hs, w1, vpS B1 rfl, vpS B2 rfl, vpS B3 rfl, vpS B4 rfl, vpS B5 rfl, vpS B6 rfl]
def qT (c : Conf) (i : Nat) : Bool := rightB (wid c) (c.tens.getD i ⟨0, 0, 0, 0, 0, 0, false⟩)
def validT (c : Conf) : Int := if validN c = 0 then (if allN (qT c) c.tens.length = true then 0 else 1) else validN c
theorem validN_lim {c : Conf} (h : validN c = 0) : limB c = true := by
  unfold validN at h
  cases hl : limB c with
  | true => rfl
  | false => rw [hl] at h; simp at h
def L103 (c : Conf) (k : Nat) (w : VSt) : Prop := gt .bad w.E 1 = .mp 1 1 0 0 ∧ hg w.H 1 = ⟨1, 0, true, [eK c]⟩ ∧ gt .bad w.E 12 = .sl (c.tens.map eT) ∧ gt .bad w.E 13 = dI (c.tens.length : Nat) ∧ gt .bad w.E 14 = dI (k : Nat) ∧ k ≤ c.tens.length ∧ allN (qT c) k = true
theorem tvalid_l0 (c : Conf) (hc : Lens c) (hr : 1 ≤ c.regions ∧ c.regions ≤ 4) : ∀ k w, L103 c k w → Ok (R PP shF 0 23 (.loop ir103_l0) w) (fun e w => (e = .exit 0 ∧ allN (qT c) c.tens.length = true) ∨ (e = .ret ∧ allN (qT c) c.tens.length = false ∧ gt .bad w.E 2 = dI 1)) := by
  refine Ok_up c.tens.length (L103 c) fun k w hI => ?_
  obtain ⟨E, H⟩ := w
  obtain ⟨e1, h1, e12, e13, e14, hk, ha⟩ := hI
  simp only at e1 h1 e12 e13 e14
  have ht := hc.t
  have w1 : IntKind.wrap .i64 ((k : Int) + 1) = ((k + 1 : Nat) : Int) := by rw [w64 (by omega) (by omega)]; rfl
  by_cases hlt : k < c.tens.length
  · have d1 : decide ((k : Int) < (c.tens.length : Int)) = true := by simp; omega
    have q1 : (k : Int) < (c.tens.length : Int) := by omega
    have q0 : (0 : Int) ≤ (k : Int) := by omega
    have g1 := getD_at (l := c.tens) (i := k) (d := ⟨0, 0, 0, 0, 0, 0, false⟩) hlt
    have B := FV_right c hr (c.tens.getD k ⟨0, 0, 0, 0, 0, 0, false⟩)
    rw [show rightB (wid c) (c.tens.getD k ⟨0, 0, 0, 0, 0, 0, false⟩) = qT c k from rfl] at B
    cases hb : qT c k with
    | true =>
      rw [hb] at B
      simp -implicitDefEqProofs only [go_sem, ir103_l0, eK, eT, e1, h1, e12, e13, e14, d1, q0, q1, g1, w1, vpS B rfl]
      refine .next hlt ⟨?_, ?_, ?_, ?_, ?_, by omega, allN_next ha hb⟩ <;> simp -implicitDefEqProofs only [go_sem, e1, h1, e12, e13, w1, eK]
    | false =>
      rw [hb] at B
      simp -implicitDefEqProofs only [go_sem, ir103_l0, eK, eT, e1, h1, e12, e13, e14, d1, q0, q1, g1, w1, vpS B rfl]
      refine .ret (.inr ⟨rfl, allN_false hb _ hlt, ?_⟩)
      simp -implicitDefEqProofs only [go_sem, ]
  · have : k = c.tens.length := by omega
    subst this
    have d1 : decide ((c.tens.length : Int) < (c.tens.length : Int)) = false := by simp
    simp -implicitDefEqProofs only [go_sem, ir103_l0, eK, e13, e14, d1]
    exact .exit (.inl ⟨rfl, ha⟩)
theorem FV_tValid (c : Conf) (hc : Lens c) : FV PP shF 103 [.agg (eK c)] = some (dI (validT c)) := by
  have V := FV_Valid c hc
  refine FV_ok (F_ok PP103 rfl ⟨by simp [ir103], by simp⟩ ?_)
  unfold validT
  by_cases h0 : validN c = 0
  · obtain ⟨hr, _⟩ := limB_facts (validN_lim h0)
    rw [h0] at V
    have n0 : ((0 : Int) != 0) = false := rfl
    simp -implicitDefEqProofs only [go_sem, ir103, eK, vpS V rfl, h0, n0]
    refine (tvalid_l0 c hc hr 0 _ ⟨?_, ?_, ?_, ?_, ?_, by omega, rfl⟩).mono ?_ <;> (try simp -implicitDefEqProofs only [go_sem, eK])
    rintro e ⟨E, H⟩ (⟨rfl, hb⟩ | ⟨rfl, hb, e2⟩)
    · simp -implicitDefEqProofs only [go_sem, hb]
    · simp only at e2
      simp -implicitDefEqProofs only [go_sem, hb, e2]
  · have d1 : (validN c != 0) = true := by simp [h0]
    simp -implicitDefEqProofs only [go_sem, ir103, eK, vpS V rfl, d1, h0]
def inC (c : Conf) (n : Int) : Bool := decide (0 ≤ n) && decide (n < c.cells.length)
def plcB (c : Conf) (x : Plc) : Bool := ((x.home == -1) || inC c x.home) && ((x.sby == -1) || inC c x.sby)
def fitB (c : Conf) (ps : List Plc) : Bool := (validT c == 0) && ((ps.length : Int) == (c.tens.length : Int)) && ps.all (plcB c)
def L90 (p : Prob) (ps : List Plc) (i : Nat) (w : VSt) : Prop := gt .bad w.E 2 = .mp 2 1 0 0 ∧ hg w.H 2 = ⟨1, 0, true, [eQ p]⟩ ∧ gt .bad w.E 20 = .sl (ps.map eP) ∧ gt .bad w.E 21 = dI (ps.length : Nat) ∧ gt .bad w.E 22 = dI (i : Nat) ∧ i ≤ ps.length ∧ ∀ j, j < i → plcB p.conf (plc ps j) = true
theorem fit_l0 (p : Prob) (ps : List Plc) (hps : ps.length ≤ 1000) : ∀ i w, L90 p ps i w → Ok (R PP shF 0 49 (.loop ir90_l0) w) (fun e w => (e = .exit 0 ∧ ∀ j, j < ps.length → plcB p.conf (plc ps j) = true) ∨ (e = .ret ∧ gt .bad w.E 4 = dB false ∧ ∃ j, j < ps.length ∧ plcB p.conf (plc ps j) = false)) := by
  refine Ok_up ps.length _ fun i w hI => ?_
  obtain ⟨E, H⟩ := w
  obtain ⟨e2, h2, e20, e21, e22, hk, hall⟩ := hI
  simp only at e2 h2 e20 e21 e22
  have w1 : IntKind.wrap .i64 ((i : Int) + 1) = ((i + 1 : Nat) : Int) := by rw [w64 (by omega) (by omega)]; rfl
  by_cases hlt : i < ps.length
  · have d1 : decide ((i : Int) < (ps.length : Int)) = true := decide_eq_true (by omega)
    have q0 : (0 : Int) ≤ (i : Int) := by omega
    have q1 : (i : Int) < (ps.length : Int) := by omega
    have g1 : ps[i]? = some (plc ps i) := getD_at hlt
    have C1 := FV_cell p (plc ps i).home
    have C2 := FV_cell p (plc ps i).sby
    have nx : plcB p.conf (plc ps i) = true → ∀ j, j < i + 1 → plcB p.conf (plc ps j) = true := fun h j hj => by
      by_cases hji : j = i
      · rw [hji]; exact h
      · exact hall j (by omega)
    have hp : plcB p.conf (plc ps i) = ((((plc ps i).home == -1) || (decide (0 ≤ (plc ps i).home) && decide ((plc ps i).home < p.conf.cells.length))) && (((plc ps i).sby == -1) || (decide (0 ≤ (plc ps i).sby) && decide ((plc ps i).sby < p.conf.cells.length)))) := rfl
    generalize hb : plcB p.conf (plc ps i) = pb at *
    cases a1 : ((plc ps i).home == -1) with
    | true =>
      have a1' : ((plc ps i).home != -1) = false := by unfold bne; rw [a1]; rfl
      cases b1 : ((plc ps i).sby == -1) with
      | true =>
        have b1' : ((plc ps i).sby != -1) = false := by unfold bne; rw [b1]; rfl
        simp -implicitDefEqProofs only [go_sem, ir90_l0, eQ, e2, h2, e20, e21, e22, d1, q0, q1, g1, w1, a1', b1']
        refine .next hlt ⟨?_, ?_, ?_, ?_, ?_, by omega, nx (by rw [hp, a1, b1]; rfl)⟩ <;> simp -implicitDefEqProofs only [go_sem, eQ, e2, h2, e20, e21, w1]
      | false =>
        have b1' : ((plc ps i).sby != -1) = true := by unfold bne; rw [b1]; rfl
        cases b2 : (decide (0 ≤ (plc ps i).sby) && decide ((plc ps i).sby < (p.conf.cells.length : Int))) with
        | true =>
          rw [b2] at C2
          simp -implicitDefEqProofs only [go_sem, ir90_l0, eQ, e2, h2, e20, e21, e22, d1, q0, q1, g1, w1, a1', b1', vpS C2 rfl]
          refine .next hlt ⟨?_, ?_, ?_, ?_, ?_, by omega, nx (by rw [hp, a1, b1, b2]; rfl)⟩ <;> simp -implicitDefEqProofs only [go_sem, eQ, e2, h2, e20, e21, w1]
        | false =>
          rw [b2] at C2
          simp -implicitDefEqProofs only [go_sem, ir90_l0, eQ, e2, h2, e20, e21, e22, d1, q0, q1, g1, w1, a1', b1', vpS C2 rfl]
          exact .ret (.inr ⟨rfl, by simp -implicitDefEqProofs only [go_sem, ], i, hlt, by rw [hb, hp, a1, b1, b2]; rfl⟩)
    | false =>
      have a1' : ((plc ps i).home != -1) = true := by unfold bne; rw [a1]; rfl
      cases a2 : (decide (0 ≤ (plc ps i).home) && decide ((plc ps i).home < (p.conf.cells.length : Int))) with
      | false =>
        rw [a2] at C1
        simp -implicitDefEqProofs only [go_sem, ir90_l0, eQ, e2, h2, e20, e21, e22, d1, q0, q1, g1, w1, a1', vpS C1 rfl]
        exact .ret (.inr ⟨rfl, by simp -implicitDefEqProofs only [go_sem, ], i, hlt, by rw [hb, hp, a1, a2]; rfl⟩)
      | true =>
        rw [a2] at C1
        cases b1 : ((plc ps i).sby == -1) with
        | true =>
          have b1' : ((plc ps i).sby != -1) = false := by unfold bne; rw [b1]; rfl
          simp -implicitDefEqProofs only [go_sem, ir90_l0, eQ, e2, h2, e20, e21, e22, d1, q0, q1, g1, w1, a1', b1', vpS C1 rfl]
          refine .next hlt ⟨?_, ?_, ?_, ?_, ?_, by omega, nx (by rw [hp, a1, a2, b1]; rfl)⟩ <;> simp -implicitDefEqProofs only [go_sem, eQ, e2, h2, e20, e21, w1]
        | false =>
          have b1' : ((plc ps i).sby != -1) = true := by unfold bne; rw [b1]; rfl
          cases b2 : (decide (0 ≤ (plc ps i).sby) && decide ((plc ps i).sby < (p.conf.cells.length : Int))) with
          | true =>
            rw [b2] at C2
            simp -implicitDefEqProofs only [go_sem, ir90_l0, eQ, e2, h2, e20, e21, e22, d1, q0, q1, g1, w1, a1', b1', vpS C1 rfl, vpS C2 rfl]
            refine .next hlt ⟨?_, ?_, ?_, ?_, ?_, by omega, nx (by rw [hp, a1, a2, b1, b2]; rfl)⟩ <;> simp -implicitDefEqProofs only [go_sem, eQ, e2, h2, e20, e21, w1]
          | false =>
            rw [b2] at C2
            simp -implicitDefEqProofs only [go_sem, ir90_l0, eQ, e2, h2, e20, e21, e22, d1, q0, q1, g1, w1, a1', b1', vpS C1 rfl, vpS C2 rfl]
            exact .ret (.inr ⟨rfl, by simp -implicitDefEqProofs only [go_sem, ], i, hlt, by rw [hb, hp, a1, a2, b1, b2]; rfl⟩)
  · have hkl : i = ps.length := by omega
    have d1 : decide ((i : Int) < (ps.length : Int)) = false := decide_eq_false (by omega)
    simp -implicitDefEqProofs only [go_sem, ir90_l0, e21, e22, d1]
    subst hkl
    exact .exit (.inl ⟨rfl, hall⟩)
theorem all_plc {c : Conf} {ps : List Plc} : (ps.all (plcB c) = true ↔ ∀ j, j < ps.length → plcB c (plc ps j) = true) := by
  rw [List.all_eq_true]
  constructor
  · intro h j hj; exact h _ (List.mem_of_getElem? (getD_at (l := ps) (i := j) (d := ⟨0, 0⟩) hj))
  · intro h x hx
    obtain ⟨j, hj, rfl⟩ := List.mem_iff_getElem.1 hx
    have := h j hj
    unfold plc at this
    rwa [List.getD_eq_getElem?_getD, List.getElem?_eq_getElem hj] at this
theorem FV_Fit (p : Prob) (hc : Lens p.conf) (ps : List Plc) (hps : ps.length ≤ 1000) : FV PP shF 90 [.agg (eQ p), .sl (ps.map eP)] = some (dB (fitB p.conf ps)) := by
  refine FV_ok (F_ok PP90 rfl ⟨by simp [ir90], by simp⟩ ?_)
  have V := FV_tValid p.conf hc
  unfold fitB
  cases v : (validT p.conf == 0) with
  | false =>
    have v' : (validT p.conf != 0) = true := by unfold bne; rw [v]; rfl
    simp -implicitDefEqProofs only [go_sem, ir90, eQ, eK, vpS V rfl, v']
  | true =>
    have v' : (validT p.conf != 0) = false := by unfold bne; rw [v]; rfl
    cases l : ((ps.length : Int) == (p.conf.tens.length : Int)) with
    | false =>
      have l' : ((ps.length : Int) != (p.conf.tens.length : Int)) = true := by unfold bne; rw [l]; rfl
      simp -implicitDefEqProofs only [go_sem, ir90, eQ, eK, vpS V rfl, v', l']
    | true =>
      have l' : ((ps.length : Int) != (p.conf.tens.length : Int)) = false := by unfold bne; rw [l]; rfl
      simp -implicitDefEqProofs only [go_sem, ir90, eQ, eK, vpS V rfl, v', l']
      refine (fit_l0 p ps hps 0 _ ⟨?_, ?_, ?_, ?_, ?_, by omega, fun j hj => by omega⟩).mono ?_ <;> (try simp -implicitDefEqProofs only [go_sem, eQ])
      rintro e ⟨E, H⟩ (⟨rfl, h⟩ | ⟨rfl, e4, j, hj, h⟩)
      · rw [all_plc.2 h]
        simp -implicitDefEqProofs only [go_sem, ]
      · have : ps.all (plcB p.conf) = false := by
          cases ha : ps.all (plcB p.conf) with
          | false => rfl
          | true => rw [all_plc.1 ha j hj] at h; simp at h
        rw [this]
        simp only at e4
        simp -implicitDefEqProofs only [go_sem, e4]
theorem FV_run (k : Nat) {g : Nat} (h : (vmach PP shF k g [] [] 0).map (·.1) = some (dB true)) : FV PP shF g [] = some (dB true) := by
  simp only [Option.map_eq_some_iff] at h
  obtain ⟨⟨d, H⟩, h1, h2⟩ := h
  simp only at h2; subst h2
  exact FV_B (F_of k h1)
theorem allN_true {q : Nat → Bool} : ∀ n : Nat, (∀ i, i < n → q i = true) → allN q n = true
  | 0, _ => rfl
  | n + 1, h => by simp only [allN, allN_true n (fun i hi => h i (by omega)), h n (by omega), Bool.and_self]
theorem inB_true {n lo hi : Int} (h : lo ≤ n ∧ n ≤ hi) : inB n lo hi = true := by unfold inB; rw [decide_eq_true h.1, decide_eq_true h.2]; rfl
theorem ConfOk.valid {c : Conf} (hc : ConfOk c) : validN c = 0 := by
  have r0 := hc.r0
  have r1 := hc.r1
  have z0 := hc.z0
  have z1 := hc.z1
  have c0 := hc.c0
  have c1 := hc.c1
  have t1 := hc.t1
  have v1 := hc.v1
  have v0 := List.length_pos_iff.2 hc.v0
  have o0 := hc.o0
  have o1 := hc.o1
  have hl : limB c = true := by
    unfold limB
    rw [inB_true ⟨by omega, by omega⟩, inB_true ⟨by omega, by omega⟩, inB_true ⟨by omega, by omega⟩, inB_true ⟨by omega, by omega⟩, inB_true (n := (c.reps.length : Int)) ⟨by rcases hc.ps with h | h <;> omega, by rcases hc.ps with h | h <;> omega⟩, inB_true ⟨by omega, by omega⟩, decide_eq_true (by omega)]
    rfl
  have he : evenB c = false := by
    unfold evenB
    rcases hc.ps with h | h <;> rw [h] <;> rfl
  have hz : ∀ l : List Int, (∀ z, z ∈ l → 0 ≤ z ∧ z < (c.zones.length : Int)) → zonesB c l = true := fun l h => allN_true _ fun i hi => by
    have g := getD_at (l := l) (i := i) (d := 0) hi
    have := h _ (List.mem_of_getElem? g)
    exact inB_true ⟨by omega, by omega⟩
  have hp : placedB c = true := by
    unfold placedB
    rw [hz _ hc.pz, hz _ hc.oz, allN_true _ (fun i hi => ?_), allN_true _ (fun i hi => ?_)]
    · rfl
    · have g := getD_at (l := c.cells) (i := i) (d := ⟨0, 0⟩) hi
      have := hc.cs _ (List.mem_of_getElem? g)
      unfold qC
      rw [inB_true ⟨by omega, by omega⟩, inB_true ⟨by omega, by omega⟩]; rfl
    · have g := getD_at (l := c.zones) (i := i) (d := 0) hi
      have := hc.zs _ (List.mem_of_getElem? g)
      exact inB_true ⟨by omega, by omega⟩
  have hv : versB c = true := by
    unfold versB
    have g0 := getD_at (l := c.vers) (i := 0) (d := ⟨0, 0⟩) v0
    have hf : firstB c = true := by
      unfold firstB
      rw [hc.vh (c.vers.getD 0 ⟨0, 0⟩) (by rw [← g0, List.head?_eq_getElem?])]
      rfl
    rw [hf, allN_true _ (fun i hi => ?_)]
    · rfl
    · have g := getD_at (l := c.vers) (i := i) (d := ⟨0, 0⟩) hi
      have := hc.vs _ (List.mem_of_getElem? g)
      unfold qV
      have x1 := this.l1
      have x2 := this.h1
      rw [decide_eq_true this.l0, decide_eq_true this.h0, decide_eq_true (by omega)]
      rfl
  have hr : restB c = true := by
    unfold restB
    have := hc.b0
    have := hc.b1
    have := hc.l0
    have := hc.l1
    have := hc.k0
    have := hc.k1
    rw [inB_true ⟨by omega, by omega⟩, inB_true ⟨by omega, by omega⟩, inB_true ⟨by omega, by omega⟩]; rfl
  unfold validN okB4
  rw [hl, he, hp, hv, hr]; rfl
theorem FV_awake17 : FV PP shF 89 [] = some (dB true) := FV_run 60 (by kernel_rfl)
theorem ConfOk.validT {c : Conf} (hc : ConfOk c) : Cp.validT c = 0 := by
  have r0 := hc.r0
  have r1 := hc.r1
  unfold Cp.validT
  rw [hc.valid, if_pos rfl, allN_true _ (fun i hi => ?_)]
  · rfl
  · have g := getD_at (l := c.tens) (i := i) (d := ⟨0, 0, 0, 0, 0, 0, false⟩) hi
    have h := hc.ts _ (List.mem_of_getElem? g)
    have a0 := h.l0
    have a1 := h.l1
    have a2 := h.s0
    have a3 := h.s1
    have a4 := h.p0
    have a5 := h.p1
    have a6 := h.g0
    have a7 := h.g1
    have a8 := h.a0
    have a9 := h.a1
    have b0 := h.u0
    have b1 := h.u1
    have hw : allR c.regions < wid c := by
      unfold wid
      obtain hh | hh | hh : c.regions = 1 ∨ c.regions = 2 ∨ c.regions = 3 := by omega
      all_goals (rw [hh]; decide)
    unfold qT rightB
    rw [inB_true ⟨by omega, by omega⟩, inB_true ⟨by omega, by omega⟩, inB_true ⟨by omega, by omega⟩, inB_true ⟨by omega, by omega⟩, inB_true ⟨by omega, by omega⟩, decide_eq_true (by omega), decide_eq_true (by omega)]
    rfl
theorem fit_iff {c : Conf} (hc : ConfOk c) (ps : List Plc) : fitB c ps = true ↔ FitP c ps := by
  unfold fitB FitP
  rw [hc.validT]
  simp only [beq_self_eq_true, Bool.true_and, Bool.and_eq_true, beq_iff_eq]
  constructor
  · rintro ⟨h1, h2⟩
    refine ⟨by omega, fun x hx => ?_⟩
    have := List.all_eq_true.1 h2 x hx
    unfold plcB inC at this
    simp at this
    exact ⟨by omega, by omega, by omega, by omega⟩
  · rintro ⟨h1, h2⟩
    refine ⟨by omega, List.all_eq_true.2 fun x hx => ?_⟩
    have := h2 x hx
    have a := this.h0; have b := this.h1; have d := this.s0; have e := this.s1
    unfold plcB inC
    simp
    omega
theorem FVF_Partial (p : Prob) (hc : ConfOk p.conf) (ps : List Plc) (hps : ps.length ≤ 1000) : FVF PP shF 93 [.agg (eQ p), .sl (ps.map eP)] (.sl ((if fitB p.conf ps = true then partL p ps else []).map eB)) := by
  refine FVF_ok (F_ok PP93 rfl ⟨by simp [ir93], by simp⟩ ?_)
  have K := FV_Fit p hc.lens ps hps
  cases hf : fitB p.conf ps with
  | false =>
    rw [hf] at K
    simp -implicitDefEqProofs only [go_sem, ir93, eQ, vpS K rfl]
    rfl
  | true =>
    rw [hf] at K
    have hfit := (fit_iff hc ps).1 hf
    have A : ∀ (H : VHeap) (b : Nat), hg H 13 = ⟨1, 0, true, [fdr p ps (.lit (.slice none 0 0))]⟩ → H.length ≤ b → 20 ≤ b → F PP shF 105 [.mp 13 1 0 0] H b = some (.tup [], FH 105 [.mp 13 1 0 0] H b) ∧ ∃ bo ov, hg (FH 105 [.mp 13 1 0 0] H b) 13 = ⟨1, 0, true, [fdr p ps ov]⟩ ∧ SlB (FH 105 [.mp 13 1 0 0] H b) bo 5 ((partL p ps).map eB) ov := by
      intro H b h1 h2 h3
      have := FH_eq (partial_ok p hc ps hfit [] (by simp) H b 13 1 0 (.lit (.slice none 0 0)) h2 h1 SlB.nil (by decide) (by omega) (by omega))
      obtain ⟨e1, bo, ov, c1, c2, _⟩ := this
      exact ⟨e1, bo, ov, c1, by simpa using c2⟩
    have A1 := fun H b h1 h2 h3 => (A H b h1 h2 h3).1
    simp -implicitDefEqProofs only [go_sem, ir93, eQ, vpS K rfl, A1]
    obtain ⟨_, bo, ov, c1, c2⟩ := A (hs (hs [] 2 ⟨1, 0, true, [eQ p]⟩) 13 ⟨1, 0, true, [fdr p ps (.lit (.slice none 0 0))]⟩) (max (max (max 0 3) 14) 20) (by simp -implicitDefEqProofs only [go_sem, ]) (by simp [hs_len]) (by decide)
    generalize FH 105 _ _ _ = H' at c1 c2 ⊢
    simp -implicitDefEqProofs only [go_sem, c1]
    exact ⟨c2.frz (by decide) (closed_eB _) 5, c2.fresh (by decide) (lits_eB _) 4⟩
def L95 (p : Prob) (ps : List Plc) (B : List Brk) (w : VSt) : Prop := ∃ bo ov, gt .bad w.E 1 = .sl (ps.map eP) ∧ gt .bad w.E 2 = .mp 2 1 0 0 ∧ hg w.H 2 = ⟨1, 0, true, [eQ p]⟩ ∧ gt .bad w.E 5 = .mp 17 1 0 0 ∧ hg w.H 17 = ⟨1, 0, true, [fdr p ps ov]⟩ ∧ SlB w.H bo 5 (B.map eB) ov ∧ (bo = 1 ∨ 58 ≤ bo) ∧ bo < max w.H.length 58
/-- add, from a function without blocks of its caller. -/
theorem addZ {p : Prob} {ps : List Plc} {B : List Brk} {bf nt bo : Nat} {ov : DV} {rule : Int} {gs : Nat} {caps : List DV} {x : Brk} (hsg : shF gs = true) (hB : B.length ≤ 100000) {H : VHeap} {b1 : Nat} (hf : hg H bf = ⟨1, 0, true, [fdr p ps ov]⟩) (ho : SlB H bo 5 (B.map eB) ov) (hbf : bf < nt) (hbo : bo ≠ bf) (hbo2 : bo < b1) (hb1 : H.length ≤ b1) (hb2 : nt ≤ b1) (hset : SetOk gs caps H b1 rule x) :
    F PP shF 110 [.mp bf 1 0 0, dI rule, .fn gs caps] H b1 = some (.tup [], FH 110 [.mp bf 1 0 0, dI rule, .fn gs caps] H b1) ∧ ∃ ov', hg (FH 110 [.mp bf 1 0 0, dI rule, .fn gs caps] H b1) bf = ⟨1, 0, true, [fdr p ps ov']⟩ ∧ SlB (FH 110 [.mp bf 1 0 0, dI rule, .fn gs caps] H b1) (b1 + 19) 5 ((B ++ [x]).map eB) ov' ∧ (∀ c, c < b1 → c ≠ bf → c ≠ bo → hg (FH 110 [.mp bf 1 0 0, dI rule, .fn gs caps] H b1) c = hg H c) ∧ b1 + 20 ≤ (FH 110 [.mp bf 1 0 0, dI rule, .fn gs caps] H b1).length := by
  have A := add_ok p ps B bf 1 bo ov rule gs caps x hsg H b1 hf ho hbo hb1 (by omega) hbo2 hB (fun b' hb' => by
    have := hset (hs H (b1 + 6) ⟨(hg H (b1 + 6)).ver + 1, 0, true, [eB ⟨rule, -1, -1, -1, -1⟩]⟩) (b1 + 6) ((hg H (b1 + 6)).ver + 1) b' (fun c hc => by rw [hg_hs, if_neg (by omega)]) (by omega) (by rw [hg_hs, if_pos rfl]) (by rw [hs_len]; exact hb')
    rw [this, hs_hs])
  exact FH_eq A
theorem full_l0 (p : Prob) (ps : List Plc) (hps : ps.length ≤ 1000) : ∀ i w, (L95 p ps (hmL ps i) w ∧ gt .bad w.E 18 = .sl (ps.map eP) ∧ gt .bad w.E 19 = dI (ps.length : Nat) ∧ gt .bad w.E 20 = dI (i : Nat) ∧ i ≤ ps.length) → Ok (R PP shF 0 58 (.loop ir95_l0) w) (fun e w => e = .exit 0 ∧ L95 p ps (hmL ps ps.length) w) := by
  refine Ok_up ps.length (fun i w => L95 p ps (hmL ps i) w ∧ gt .bad w.E 18 = .sl (ps.map eP) ∧ gt .bad w.E 19 = dI (ps.length : Nat) ∧ gt .bad w.E 20 = dI (i : Nat) ∧ i ≤ ps.length) fun i w hI => ?_
  obtain ⟨E, H⟩ := w
  obtain ⟨⟨bo, ov, e1, e2, h2, e5, h17, ho, hbo, hbl⟩, e18, e19, e20, hk⟩ := hI
  simp only at e1 e2 h2 e5 h17 ho hbl e18 e19 e20
  have w1 : IntKind.wrap .i64 ((i : Int) + 1) = ((i + 1 : Nat) : Int) := by rw [w64 (by omega) (by omega)]; rfl
  by_cases hlt : i < ps.length
  · have d1 : decide ((i : Int) < (ps.length : Int)) = true := decide_eq_true (by omega)
    have q0 : (0 : Int) ≤ (i : Int) := by omega
    have q1 : (i : Int) < (ps.length : Int) := by omega
    have g1 : ps[i]? = some (plc ps i) := getD_at hlt
    have hl := hmL_len ps i
    have hK : hmL ps (i + 1) = hmL ps i ++ hmX i (plc ps i) := rfl
    have ho2 : SlB (hs (hs (hs (hs H 6 ⟨(hg H 6).ver + 1, 0, true, [[dI 0]]⟩) 7 ⟨(hg H 7).ver + 1, 0, true, [[dI 0, dI 0]]⟩) 6 ⟨(hg H 6).ver + 1, 0, true, [[dI (i : Nat)]]⟩) 7 ⟨(hg H 7).ver + 1, 0, true, [[dI (plc ps i).home, dI (plc ps i).sby]]⟩) bo 5 ((hmL ps i).map eB) ov := by
      rw [SlB_hs (by omega), SlB_hs (by omega), SlB_hs (by omega), SlB_hs (by omega)]; exact ho
    cases h1 : ((plc ps i).home == -1) with
    | true =>
      have hx : hmX i (plc ps i) = [⟨1, i, -1, -1, -1⟩] := by unfold hmX; rw [if_pos (by simpa using h1)]
      rw [hx] at hK
      have A := fun b1 hb1 hb2 hb3 => addZ (p := p) (ps := ps) (bf := 17) (nt := 58) (rule := 1) (gs := 111) (caps := [.mp 6 ((hg H 6).ver + 1) 0 0]) (x := ⟨1, i, -1, -1, -1⟩) rfl (by omega) (b1 := b1) (by rw [hg_hs, if_neg (by decide), hg_hs, if_neg (by decide), hg_hs, if_neg (by decide), hg_hs, if_neg (by decide)]; exact h17) ho2 (by decide) (by omega) hb3 hb1 hb2 (set_111 _ _ _ _ _ _ (by rw [hg_hs, if_neg (by decide), hg_hs, if_pos rfl]) (by omega))
      have A1 := fun b1 hb1 hb2 hb3 => (A b1 hb1 hb2 hb3).1
      have hbx : bo < max (max (max (max (max (List.length H) 7) 8) 7) 8) 58 := by omega
      simp -implicitDefEqProofs only [go_sem, ir95_l0, e1, e2, h2, e5, h17, e18, e19, e20, d1, q0, q1, g1, w1, h1, hs_hs, A1, hbx]
      obtain ⟨_, ov', c1, c2, c3, c4⟩ := A (max (max (max (max (max (List.length H) 7) 8) 7) 8) 58) (by simp only [hs_len]; omega) (by omega) hbx
      have h2' := c3 2 (by omega) (by decide) (by omega)
      rw [hg_hs, if_neg (by decide), hg_hs, if_neg (by decide), hg_hs, if_neg (by decide), hg_hs, if_neg (by decide), h2] at h2'
      generalize FH 110 _ _ _ = H' at c1 c2 c4 h2' ⊢
      have hb58 : 58 ≤ max (max (max (max (max (List.length H) 7) 8) 7) 8) 58 := by omega
      generalize max (max (max (max (max (List.length H) 7) 8) 7) 8) 58 = b1 at *
      refine .next hlt ⟨⟨b1 + 19, ov', ?_, ?_, ?_, ?_, c1, ?_, ?_, ?_⟩, ?_, ?_, ?_, by omega⟩ <;> (try simp -implicitDefEqProofs only [go_sem, e1, e2, h2', e5, e18, e19, w1])
      · rw [hK]; exact c2
      · right; omega
      · omega
    | false =>
      have hx : hmX i (plc ps i) = [] := by unfold hmX; rw [if_neg (by simpa using h1)]
      rw [hx, List.append_nil] at hK
      simp -implicitDefEqProofs only [go_sem, ir95_l0, e1, e2, h2, e5, h17, e18, e19, e20, d1, q0, q1, g1, w1, h1, hs_hs]
      refine .next hlt ⟨⟨bo, ov, ?_, ?_, ?_, ?_, ?_, ?_, hbo, ?_⟩, ?_, ?_, ?_, by omega⟩ <;> (try simp -implicitDefEqProofs only [go_sem, e1, e2, h2, e5, h17, e18, e19, w1])
      · rw [hK]; exact ho2
      · omega
  · have hkl : i = ps.length := by omega
    have d1 : decide ((i : Int) < (ps.length : Int)) = false := decide_eq_false (by omega)
    simp -implicitDefEqProofs only [go_sem, ir95_l0, e19, e20, d1]
    subst hkl
    refine .exit ⟨rfl, bo, ov, ?_, ?_, h2, ?_, h17, ho, hbo, hbl⟩ <;> simp -implicitDefEqProofs only [go_sem, e1, e2, e5]
theorem full_l1 (p : Prob) (ps : List Plc) (B : List Brk) (hB : B.length ≤ 1000) (hps : ps.length ≤ 1000) : ∀ i w, (L95 p ps (B ++ sbL p.conf ps i) w ∧ gt .bad w.E 32 = .sl (ps.map eP) ∧ gt .bad w.E 33 = dI (ps.length : Nat) ∧ gt .bad w.E 34 = dI (i : Nat) ∧ i ≤ ps.length) → Ok (R PP shF 0 58 (.loop ir95_l1) w) (fun e w => e = .exit 2 ∧ L95 p ps ((B ++ sbL p.conf ps ps.length)) w) := by
  refine Ok_up ps.length (fun i w => L95 p ps (B ++ sbL p.conf ps i) w ∧ gt .bad w.E 32 = .sl (ps.map eP) ∧ gt .bad w.E 33 = dI (ps.length : Nat) ∧ gt .bad w.E 34 = dI (i : Nat) ∧ i ≤ ps.length) fun i w hI => ?_
  obtain ⟨E, H⟩ := w
  obtain ⟨⟨bo, ov, e1, e2, h2, e5, h17, ho, hbo, hbl⟩, e18, e19, e20, hk⟩ := hI
  simp only at e1 e2 h2 e5 h17 ho hbl e18 e19 e20
  have w1 : IntKind.wrap .i64 ((i : Int) + 1) = ((i + 1 : Nat) : Int) := by rw [w64 (by omega) (by omega)]; rfl
  by_cases hlt : i < ps.length
  · have d1 : decide ((i : Int) < (ps.length : Int)) = true := decide_eq_true (by omega)
    have q0 : (0 : Int) ≤ (i : Int) := by omega
    have q1 : (i : Int) < (ps.length : Int) := by omega
    have g1 : ps[i]? = some (plc ps i) := getD_at hlt
    have hl := sbL_len p.conf ps i
    have hK : sbL p.conf ps (i + 1) = sbL p.conf ps i ++ sbX p.conf i (plc ps i) := rfl
    have SG := FV_Single p (i : Nat)
    have ho2 : SlB (hs (hs (hs (hs H 8 ⟨(hg H 8).ver + 1, 0, true, [[dI 0]]⟩) 9 ⟨(hg H 9).ver + 1, 0, true, [[dI 0, dI 0]]⟩) 8 ⟨(hg H 8).ver + 1, 0, true, [[dI (i : Nat)]]⟩) 9 ⟨(hg H 9).ver + 1, 0, true, [[dI (plc ps i).home, dI (plc ps i).sby]]⟩) bo 5 ((B ++ sbL p.conf ps i).map eB) ov := by
      rw [SlB_hs (by omega), SlB_hs (by omega), SlB_hs (by omega), SlB_hs (by omega)]; exact ho
    cases h1 : ((plc ps i).sby == -1) with
    | true =>
      cases hs : singB p.conf (i : Nat) with
      | true =>
        rw [hs] at SG
        have hx : sbX p.conf i (plc ps i) = [] := by unfold sbX; rw [if_neg (by rw [hs]; simp)]
        rw [hx, List.append_nil] at hK
        simp -implicitDefEqProofs only [go_sem, ir95_l1, eQ, e1, e2, h2, e5, h17, e18, e19, e20, d1, q0, q1, g1, w1, h1, hs_hs, vpS SG rfl]
        refine .next hlt ⟨⟨bo, ov, ?_, ?_, ?_, ?_, ?_, ?_, hbo, ?_⟩, ?_, ?_, ?_, by omega⟩ <;> (try simp -implicitDefEqProofs only [go_sem, eQ, e1, e2, h2, e5, h17, e18, e19, w1])
        · rw [hK]; exact ho2
        · omega
      | false =>
        rw [hs] at SG
        have hx : sbX p.conf i (plc ps i) = [⟨2, i, -1, -1, -1⟩] := by unfold sbX; rw [if_pos ⟨by simpa using h1, hs⟩]
        rw [hx] at hK
        have A := fun b1 hb1 hb2 hb3 => addZ (p := p) (ps := ps) (bf := 17) (nt := 58) (rule := 2) (gs := 112) (caps := [.mp 8 ((hg H 8).ver + 1) 0 0]) (x := ⟨2, i, -1, -1, -1⟩) rfl (by simp only [List.length_append]; omega) (b1 := b1) (by rw [hg_hs, if_neg (by decide), hg_hs, if_neg (by decide), hg_hs, if_neg (by decide), hg_hs, if_neg (by decide)]; exact h17) ho2 (by decide) (by omega) hb3 hb1 hb2 (set_112 _ _ _ _ _ _ (by rw [hg_hs, if_neg (by decide), hg_hs, if_pos rfl]) (by omega))
        have A1 := fun b1 hb1 hb2 hb3 => (A b1 hb1 hb2 hb3).1
        have hbx : bo < max (max (max (max (max (List.length H) 9) 10) 9) 10) 58 := by omega
        simp -implicitDefEqProofs only [go_sem, ir95_l1, eQ, e1, e2, h2, e5, h17, e18, e19, e20, d1, q0, q1, g1, w1, h1, hs_hs, vpS SG rfl, A1, hbx]
        obtain ⟨_, ov', c1, c2, c3, c4⟩ := A (max (max (max (max (max (List.length H) 9) 10) 9) 10) 58) (by simp only [hs_len]; omega) (by omega) hbx
        have h2' := c3 2 (by omega) (by decide) (by omega)
        rw [hg_hs, if_neg (by decide), hg_hs, if_neg (by decide), hg_hs, if_neg (by decide), hg_hs, if_neg (by decide), h2] at h2'
        generalize FH 110 _ _ _ = H' at c1 c2 c4 h2' ⊢
        have hb58 : 58 ≤ max (max (max (max (max (List.length H) 9) 10) 9) 10) 58 := by omega
        generalize max (max (max (max (max (List.length H) 9) 10) 9) 10) 58 = b1 at *
        refine .next hlt ⟨⟨b1 + 19, ov', ?_, ?_, ?_, ?_, c1, ?_, ?_, ?_⟩, ?_, ?_, ?_, by omega⟩ <;> (try simp -implicitDefEqProofs only [go_sem, eQ, e1, e2, h2', e5, e18, e19, w1])
        · rw [hK, ← List.append_assoc]; exact c2
        · right; omega
        · omega
    | false =>
      have hx : sbX p.conf i (plc ps i) = [] := by unfold sbX; rw [if_neg (fun h => by have := h.1; rw [this] at h1; simp at h1)]
      rw [hx, List.append_nil] at hK
      simp -implicitDefEqProofs only [go_sem, ir95_l1, eQ, e1, e2, h2, e5, h17, e18, e19, e20, d1, q0, q1, g1, w1, h1, hs_hs]
      refine .next hlt ⟨⟨bo, ov, ?_, ?_, ?_, ?_, ?_, ?_, hbo, ?_⟩, ?_, ?_, ?_, by omega⟩ <;> (try simp -implicitDefEqProofs only [go_sem, eQ, e1, e2, h2, e5, h17, e18, e19, w1])
      · rw [hK]; exact ho2
      · omega
  · have hkl : i = ps.length := by omega
    have d1 : decide ((i : Int) < (ps.length : Int)) = false := decide_eq_false (by omega)
    simp -implicitDefEqProofs only [go_sem, ir95_l1, e19, e20, d1]
    subst hkl
    refine .exit ⟨rfl, bo, ov, ?_, ?_, h2, ?_, h17, ho, hbo, hbl⟩ <;> simp -implicitDefEqProofs only [go_sem, e1, e2, e5]
theorem FVF_Full (p : Prob) (hc : ConfOk p.conf) (ps : List Plc) (hps : ps.length ≤ 1000) : FVF PP shF 95 [.agg (eQ p), .sl (ps.map eP)] (.sl ((if fitB p.conf ps = true then fullL p ps else []).map eB)) := by
  refine FVF_ok (F_ok PP95 rfl ⟨by simp [ir95], by simp⟩ ?_)
  have K := FV_Fit p hc.lens ps hps
  cases hf : fitB p.conf ps with
  | false =>
    rw [hf] at K
    simp -implicitDefEqProofs only [go_sem, ir95, eQ, vpS K rfl]
    rfl
  | true =>
    rw [hf] at K
    have hfit := (fit_iff hc ps).1 hf
    have ht5 := hc.t1
    have hpt := hfit.1
    have l1 := hmL_len ps ps.length
    have l2 := sbL_len p.conf ps ps.length
    simp -implicitDefEqProofs only [go_sem, ir95, eQ, vpS K rfl]
    refine (full_l0 p ps (by omega) 0 _ ⟨⟨1, .lit (.slice none 0 0), ?_, ?_, ?_, ?_, ?_, ?_, .inl rfl, ?_⟩, ?_, ?_, ?_, by omega⟩).mono ?_ <;> (try simp -implicitDefEqProofs only [go_sem, eQ])
    · exact SlB.nil
    · decide
    rintro e ⟨E, H⟩ ⟨rfl, bo, ov, e1, e2, h2, e5, h17, ho, hbo, hbl⟩
    simp only at e1 e2 h2 e5 h17 ho hbl
    simp -implicitDefEqProofs only [go_sem, e1]
    refine (full_l1 p ps (hmL ps ps.length) (by omega) (by omega) 0 _ ⟨⟨bo, ov, ?_, ?_, ?_, ?_, ?_, ?_, hbo, ?_⟩, ?_, ?_, ?_, by omega⟩).mono ?_ <;> (try simp -implicitDefEqProofs only [go_sem, e1, e2, h2, e5, h17])
    · simp only [sbL, List.append_nil]; exact ho
    · exact hbl
    clear e1 e2 h2 e5 h17 ho hbo hbl
    rintro e ⟨E, H⟩ ⟨rfl, bo, ov, e1, e2, h2, e5, h17, ho, hbo, hbl⟩
    simp only at e1 e2 h2 e5 h17 ho hbl
    have A := fun b h1 h2 h3 => FH_eq (partial_ok p hc ps hfit (hmL ps ps.length ++ sbL p.conf ps ps.length) (by simp only [List.length_append]; omega) H b 17 1 bo ov h1 h17 ho (by omega) h2 h3)
    have A1 := fun b h1 h2 h3 => (A b h1 h2 h3).1
    have hb58 : 17 < max (List.length H) 58 := by omega
    simp -implicitDefEqProofs only [go_sem, e5, A1, hbl, hb58]
    obtain ⟨_, bo', ov', c1, c2, _⟩ := A (max (List.length H) 58) (by omega) hbl hb58
    generalize FH 105 _ _ _ = H' at c1 c2 ⊢
    simp -implicitDefEqProofs only [go_sem, c1]
    exact ⟨c2.frz (by decide) (closed_eB _) 5, c2.fresh (by decide) (lits_eB _) 4⟩
def L92 (L : List Brk) (k : Nat) (w : VSt) : Prop := gt .bad w.E 0 = .sl (L.map eB) ∧ gt .bad w.E 1 = .sl (L.map eB) ∧ gt .bad w.E 5 = dI (k : Nat) ∧ k ≤ L.length
theorem same17_l0 (L : List Brk) (hL : L.length ≤ 1000000) : ∀ k w, L92 L k w → Ok (R PP shF 0 26 (.loop ir92_l0) w) (fun e w => e = .exit 0) := by
  refine Ok_up L.length (L92 L) fun k w hI => ?_
  obtain ⟨E, H⟩ := w
  obtain ⟨e0, e1, e5, hk⟩ := hI
  simp only at e0 e1 e5
  have w1 : IntKind.wrap .i64 ((k : Int) + 1) = ((k + 1 : Nat) : Int) := by rw [w64 (by omega) (by omega)]; rfl
  by_cases hlt : k < L.length
  · have d1 : decide ((k : Int) < (L.length : Int)) = true := decide_eq_true (by omega)
    have q0 : (0 : Int) ≤ (k : Int) := by omega
    have q1 : (k : Int) < (L.length : Int) := by omega
    have g1 := getD_at (l := L) (i := k) (d := ⟨0, 0, 0, 0, 0⟩) hlt
    have n1 : ∀ x : Int, (x == x) = true := fun x => by simp
    simp -implicitDefEqProofs only [go_sem, ir92_l0, e0, e1, e5, d1, q0, q1, g1, w1, n1]
    refine .next hlt ⟨?_, ?_, ?_, by omega⟩ <;> simp -implicitDefEqProofs only [go_sem, e0, e1, w1]
  · have hkl : k = L.length := by omega
    have d1 : decide ((k : Int) < (L.length : Int)) = false := decide_eq_false (by omega)
    simp -implicitDefEqProofs only [go_sem, ir92_l0, e0, e5, d1]
    exact .exit rfl
theorem FV_Same17 (L : List Brk) (hL : L.length ≤ 1000000) : FV PP shF 92 [.sl (L.map eB), .sl (L.map eB)] = some (dB true) := by
  refine FV_ok (F_ok PP92 rfl ⟨by simp [ir92], by simp⟩ ?_)
  have n1 : ((L.length : Int) != (L.length : Int)) = false := by simp
  simp -implicitDefEqProofs only [go_sem, ir92, n1]
  refine (same17_l0 L hL 0 _ ⟨?_, ?_, ?_, by omega⟩).mono ?_ <;> (try simp -implicitDefEqProofs only [go_sem, ])
  rintro e ⟨E, H⟩ rfl
  simp -implicitDefEqProofs only [go_sem, ]
theorem fullL_len {p : Prob} (hc : ConfOk p.conf) {ps : List Plc} (hfit : FitP p.conf ps) : (fullL p ps).length ≤ 300 := by
  have ht5 := hc.t1
  have hpt := hfit.1
  have l1 := hmL_len ps ps.length
  have l2 := sbL_len p.conf ps ps.length
  have l3 := partL_len hc hfit
  unfold fullL
  simp only [List.length_append]
  omega
theorem law_RulesBroken (l : List Int) (hl : I64s l) (m : List Int) (hm : I64s m) (cells : Int) (h1 : I64 cells) (hr : Bool) : OkF (F PP shF 82 [dL l, dL m, dI cells, dB hr] [] 0) (fun d _ => d = dB true) := by
  refine F_ok PP82 rfl ⟨by simp [ir82], by simp⟩ ?_
  have L := FV_Light l
  have L2 := FV_Light m
  by_cases hlen : l.length ≤ 200
  case neg => rw [decide_eq_false hlen] at L; simp -implicitDefEqProofs only [go_sem, ir82, vpS L rfl, vpS FV_awake17 rfl]
  rw [decide_eq_true hlen] at L
  by_cases hlen2 : m.length ≤ 200
  case neg => rw [decide_eq_false hlen2] at L2; simp -implicitDefEqProofs only [go_sem, ir82, vpS L rfl, vpS L2 rfl, vpS FV_awake17 rfl]
  rw [decide_eq_true hlen2] at L2
  obtain ⟨p, hc, hcells, _, hP⟩ := FV_Problem l hl cells h1 hr
  obtain ⟨ps, hps1, hps2, hQ⟩ := FVF_Places m hm p.conf hc
  have hfit : FitP p.conf ps := ⟨hps1, hps2⟩
  have ht := hc.t1
  have A1 := FVF_Partial p hc ps (by omega)
  have A2 := FVF_rPartial p hc ps hfit
  have A3 := FVF_Full p hc ps (by omega)
  have A4 := FVF_rFull p hc ps hfit
  rw [(fit_iff hc ps).2 hfit, if_pos rfl] at A1 A3
  have S1 := FV_Same17 (partL p ps) (by have := partL_len hc hfit; omega)
  have S2 := FV_Same17 (fullL p ps) (by have := fullL_len hc hfit; omega)
  simp -implicitDefEqProofs only [go_sem, ir82, vpS L rfl, vpS L2 rfl, vpL hP rfl, eQ, eK, vpF hQ rfl, vpS FV_awake17 rfl, vpF A1 rfl, vpF A2 rfl, vpF A3 rfl, vpF A4 rfl, vpS S1 rfl, vpS S2 rfl]
end Go.Proofs.Cp
