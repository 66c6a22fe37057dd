/- The second machine without bounds: what it answers with enough of them. No program in sight. -/
import Derived.Test.YtbgdpdkkbmlhdaaCpVSound
set_option linter.unusedSimpArgs false
set_option linter.unusedVariables false
namespace Go.Proofs.Cp
open Go

def VLe (c1 c2 : VCalls) : Prop := ∀ f args h b r, c1 f args h b = some r → c2 f args h b = some r
theorem VLe.refl (c : VCalls) : VLe c c := fun _ _ _ _ _ h => h
variable {sh : Nat → Bool} {base nt : Nat}
theorem vcall_mono {c1 c2 : VCalls} (hc : VLe c1 c2) {dst : Option Nat} {g : Nat} {args : List DV} {frz : Bool} {H : VHeap} {r : DV × VEff} (hi : vcall c1 sh base nt dst g args frz H = some r) : vcall c2 sh base nt dst g args frz H = some r := by
  unfold vcall at hi ⊢
  split
  · rename_i hs
    rw [if_pos hs] at hi
    split
    · rename_i hf; rw [if_pos hf] at hi; exact hi
    · rename_i hf
      rw [if_neg hf] at hi
      simp only [Option.map_eq_some_iff] at hi ⊢
      obtain ⟨q, h1, h2⟩ := hi
      exact ⟨q, hc _ _ _ _ _ h1, h2⟩
  · rename_i hs
    rw [if_neg hs] at hi
    simp only [Option.bind_eq_some_iff] at hi ⊢
    obtain ⟨a, h0, q, h1, h2⟩ := hi
    exact ⟨a, h0, q, hc _ _ _ _ _ h1, h2⟩
theorem viop_mono {c1 c2 : VCalls} (hc : VLe c1 c2) {dst : Option Nat} {op : IOp} {E : List DV} {H : VHeap} {r : DV × VEff} (hi : viop c1 sh base nt dst op E H = some r) : viop c2 sh base nt dst op E H = some r := by
  cases op <;> try exact hi
  simp only [viop] at hi ⊢
  split at hi
  · exact vcall_mono hc hi
  · simp at hi
theorem vop_mono {c1 c2 : VCalls} (hc : VLe c1 c2) {o : IOper} {s s' : VSt} (hr : vop c1 sh base nt o s = some s') : vop c2 sh base nt o s = some s' := by
  unfold vop at hr ⊢
  split at hr
  · rename_i hw
    simp only [Option.map_eq_some_iff] at hr ⊢
    obtain ⟨q, h1, h2⟩ := hr
    exact ⟨q, viop_mono hc h1, h2⟩
  · exact hr
  · simp at hr
theorem vops_mono {c1 c2 : VCalls} (hc : VLe c1 c2) : ∀ {os : List IOper} {s s' : VSt}, vops c1 sh base nt os s = some s' → vops c2 sh base nt os s = some s'
  | [], s, s', hr => hr
  | o :: os, s, s', hr => by
    simp only [vops, Option.bind_eq_some_iff] at hr ⊢
    obtain ⟨s1, h1, h2⟩ := hr
    exact ⟨s1, vop_mono hc h1, vops_mono hc h2⟩
theorem vopD_mono {c1 c2 : VCalls} (hc : VLe c1 c2) {o : IOper} {E E' : List DV} {H : VHeap} (hr : vopD c1 sh base nt o E H = some E') : vopD c2 sh base nt o E H = some E' := by
  unfold vopD at hr ⊢
  split at hr
  · split at hr
    · rename_i v hi
      rw [viop_mono hc hi]; exact hr
    · simp at hr
  · exact hr
  · simp at hr
theorem vopsD_mono {c1 c2 : VCalls} (hc : VLe c1 c2) : ∀ {os : List IOper} {E E' : List DV} {H : VHeap}, vopsD c1 sh base nt os E H = some E' → vopsD c2 sh base nt os E H = some E'
  | [], E, E', H, hr => hr
  | o :: os, E, E', H, hr => by
    simp only [vopsD, Option.bind_eq_some_iff] at hr ⊢
    obtain ⟨s1, h1, h2⟩ := hr
    exact ⟨s1, vopD_mono hc h1, vopsD_mono hc h2⟩
theorem vcallE_mono {c1 c2 : VCalls} (hc : VLe c1 c2) {dst : Option Nat} {g : Nat} {args : List DV} {frz : Bool} {H : VHeap} {r : DV × VEff} (hi : vcallE c1 sh base nt g args dst frz H = some r) : vcallE c2 sh base nt g args dst frz H = some r := by
  unfold vcallE at hi ⊢
  split
  · rename_i hs
    rw [if_pos hs] at hi
    split
    · rename_i hf; rw [if_pos hf] at hi; exact hi
    · rename_i hf
      rw [if_neg hf] at hi
      simp only [Option.map_eq_some_iff] at hi ⊢
      obtain ⟨q, h1, h2⟩ := hi
      exact ⟨q, hc _ _ _ _ _ h1, h2⟩
  · rename_i hs
    rw [if_neg hs] at hi
    exact vcall_mono hc hi
theorem viopE_mono {c1 c2 : VCalls} (hc : VLe c1 c2) {dst : Option Nat} {op : IOp} {E : List DV} {H : VHeap} {r : DV × VEff} (hi : viopE c1 sh base nt dst op E H = some r) : viopE c2 sh base nt dst op E H = some r := by
  cases op <;> simp only [viopE] at hi ⊢
  case call f args frz =>
    split at hi
    · exact vcallE_mono hc hi
    · simp at hi
  all_goals exact viop_mono hc hi
theorem vopE_mono {c1 c2 : VCalls} (hc : VLe c1 c2) {o : IOper × Nat × Nat × Nat} {s s' : VE} (hr : vopE c1 sh base nt o s = some s') : vopE c2 sh base nt o s = some s' := by
  unfold vopE at hr ⊢
  split at hr
  · exact hr
  · split at hr
    · split at hr
      · split at hr
        · rename_i hp
          simp only [hp, ↓reduceIte, Option.map_eq_some_iff] at hr ⊢
          obtain ⟨q, h1, h2⟩ := hr
          exact ⟨q, viop_mono hc h1, h2⟩
        · simp at hr
      · split at hr
        · rename_i hp
          simp only [hp, ↓reduceIte, Option.map_eq_some_iff] at hr ⊢
          obtain ⟨q, h1, h2⟩ := hr
          exact ⟨q, viop_mono hc h1, h2⟩
        · simp at hr
      · simp only [Option.map_eq_some_iff] at hr ⊢
        obtain ⟨q, h1, h2⟩ := hr
        exact ⟨q, viopE_mono hc h1, h2⟩
    · exact hr
    · simp at hr
theorem vopsE_mono {c1 c2 : VCalls} (hc : VLe c1 c2) : ∀ {os : List (IOper × Nat × Nat × Nat)} {s s' : VE}, vopsE c1 sh base nt os s = some s' → vopsE c2 sh base nt os s = some s'
  | [], s, s', hr => hr
  | o :: os, s, s', hr => by
    simp only [vopsE, Option.bind_eq_some_iff] at hr ⊢
    obtain ⟨s1, h1, h2⟩ := hr
    exact ⟨s1, vopE_mono hc h1, vopsE_mono hc h2⟩
theorem vrgE_mono {c1 c2 : VCalls} (hc : VLe c1 c2) {os : List (IOper × Nat × Nat × Nat)} {s : VSt} {r : Ex × VSt} (hr : vrgE c1 sh base nt os s = some r) : vrgE c2 sh base nt os s = some r := by
  unfold vrgE at hr ⊢
  simp only [Option.bind_eq_some_iff] at hr ⊢
  obtain ⟨H0, h1, t, h2, h3⟩ := hr
  exact ⟨H0, h1, t, vopsE_mono hc h2, h3⟩
theorem viter_mono {b1 b2 : VSt → Option (Ex × VSt)} (hb : ∀ s r, b1 s = some r → b2 s = some r) : ∀ {n m : Nat} {s : VSt} {r : Ex × VSt}, n ≤ m → viter b1 n s = some r → viter b2 m s = some r
  | 0, m, s, r, _, hr => by simp [viter] at hr
  | n + 1, 0, s, r, hle, hr => by omega
  | n + 1, m + 1, s, r, hle, hr => by
    simp only [viter, Option.bind_eq_some_iff] at hr ⊢
    obtain ⟨q, h1, h2⟩ := hr
    refine ⟨q, hb _ _ h1, ?_⟩
    obtain ⟨x, s1⟩ := q
    cases x with
    | normal => exact viter_mono hb (by omega) h2
    | exit id => exact h2
    | ret => exact h2
theorem vrun_mono {c1 c2 : VCalls} (hc : VLe c1 c2) {k l : Nat} (hkl : k ≤ l) : ∀ {c : ICode} {s : VSt} {r : Ex × VSt}, vrun c1 sh base nt k c s = some r → vrun c2 sh base nt l c s = some r
  | .skip, s, r, hr => hr
  | .reg false ops, s, r, hr => by
    simp only [vrun, Option.map_eq_some_iff] at hr ⊢
    obtain ⟨s', h1, h2⟩ := hr
    exact ⟨s', vops_mono hc h1, h2⟩
  | .reg true ops, s, r, hr => by
    simp only [vrun, Option.map_eq_some_iff] at hr ⊢
    obtain ⟨s', h1, h2⟩ := hr
    exact ⟨s', vopsD_mono hc h1, h2⟩
  | .rgE ops, s, r, hr => by
    simp only [vrun] at hr ⊢
    exact vrgE_mono hc hr
  | .seq a b, s, r, hr => by
    simp only [vrun, Option.bind_eq_some_iff] at hr ⊢
    obtain ⟨q, h1, h2⟩ := hr
    refine ⟨q, vrun_mono hc hkl h1, ?_⟩
    obtain ⟨x, s1⟩ := q
    cases x with
    | normal => exact vrun_mono hc hkl h2
    | exit id => exact h2
    | ret => exact h2
  | .cond c a b, s, r, hr => by
    simp only [vrun] at hr ⊢
    split at hr
    · exact vrun_mono hc hkl hr
    · exact vrun_mono hc hkl hr
    · simp at hr
  | .block id c, s, r, hr => by
    simp only [vrun, Option.map_eq_some_iff] at hr ⊢
    obtain ⟨q, h1, h2⟩ := hr
    exact ⟨q, vrun_mono hc hkl h1, h2⟩
  | .loop c, s, r, hr => by
    simp only [vrun] at hr ⊢
    exact viter_mono (fun s r h => vrun_mono hc hkl h) hkl hr
  | .exit id, s, r, hr => hr
  | .ret, s, r, hr => hr
theorem vrunFun_mono {c1 c2 : VCalls} (hc : VLe c1 c2) {k l : Nat} (hkl : k ≤ l) {fn : IFun} {args : List DV} {H : VHeap} {b : Nat} {r : DV × VHeap} (hr : vrunFun c1 sh k fn args H b = some r) : vrunFun c2 sh l fn args H b = some r := by
  unfold vrunFun at hr ⊢
  split
  · rename_i hw
    rw [if_pos hw] at hr
    simp only [Option.bind_eq_some_iff] at hr ⊢
    obtain ⟨q, h1, h2⟩ := hr
    exact ⟨q, vrun_mono hc hkl h1, h2⟩
  · rename_i hw
    rw [if_neg hw] at hr
    simp at hr
theorem vmach_succ {P : Prog} : ∀ k, VLe (vmach P sh k) (vmach P sh (k + 1))
  | 0 => by intro f args h b r hr; simp [vmach] at hr
  | k + 1 => by
    intro f args h b r hr
    simp only [vmach, vstep] at hr ⊢
    split at hr
    · simp at hr
    · split at hr
      · rename_i hi
        rw [if_pos hi]
        split at hr
        · rename_i hq; rw [if_pos hq]; exact hr
        · rename_i hq; rw [if_neg hq]; exact vrunFun_mono (vmach_succ k) (by omega) hr
      · simp at hr
theorem vmach_le {P : Prog} {k l : Nat} (h : k ≤ l) : VLe (vmach P sh k) (vmach P sh l) := by
  induction h with
  | refl => exact .refl _
  | step _ ih => exact fun f args h b r hr => vmach_succ _ _ _ _ _ _ (ih _ _ _ _ _ hr)

/-! ### Limits -/
open Classical in
noncomputable def lim {α : Type} (g : Nat → Option α) : Option α := if h : ∃ k, (g k).isSome = true then g (Classical.choose h) else none
def Mon {α : Type} (g : Nat → Option α) : Prop := ∀ k l a, k ≤ l → g k = some a → g l = some a
theorem lim_iff {α : Type} {g : Nat → Option α} (hg : Mon g) (a : α) : lim g = some a ↔ ∃ k, g k = some a := by
  unfold lim
  constructor
  · intro h
    split at h
    · exact ⟨_, h⟩
    · simp at h
  · rintro ⟨k, hk⟩
    have hex : ∃ k, (g k).isSome = true := ⟨k, by simp [hk]⟩
    rw [dif_pos hex]
    have hs := Classical.choose_spec hex
    obtain ⟨b, hb⟩ := Option.isSome_iff_exists.1 hs
    rw [hb]
    rcases Nat.le_total k (Classical.choose hex) with hle | hle
    · have := hg _ _ _ hle hk; rw [hb] at this; exact this
    · have := hg _ _ _ hle hb; rw [hk] at this; exact this.symm

/-- What a function answers. -/
noncomputable def F (P : Prog) (sh : Nat → Bool) (f : Nat) (args : List DV) (H : VHeap) (b : Nat) : Option (DV × VHeap) := lim fun k => vmach P sh k f args H b
/-- What code comes to. -/
noncomputable def R (P : Prog) (sh : Nat → Bool) (base nt : Nat) (c : ICode) (s : VSt) : Option (Ex × VSt) := lim fun k => vrun (vmach P sh k) sh base nt k c s
variable {P : Prog}
theorem vmach_mon (f : Nat) (args : List DV) (H : VHeap) (b : Nat) : Mon fun k => vmach P sh k f args H b := fun k l a hkl hk => vmach_le hkl _ _ _ _ _ hk
theorem vrun_mon (c : ICode) (s : VSt) : Mon fun k => vrun (vmach P sh k) sh base nt k c s := fun k l a hkl hk => vrun_mono (vmach_le hkl) hkl hk
theorem F_iff {f : Nat} {args : List DV} {H : VHeap} {b : Nat} {r : DV × VHeap} : F P sh f args H b = some r ↔ ∃ k, vmach P sh k f args H b = some r := lim_iff (vmach_mon f args H b) r
theorem R_iff {c : ICode} {s : VSt} {r : Ex × VSt} : R P sh base nt c s = some r ↔ ∃ k, vrun (vmach P sh k) sh base nt k c s = some r := lim_iff (vrun_mon c s) r
theorem F_of (k : Nat) {f : Nat} {args : List DV} {H : VHeap} {b : Nat} {r : DV × VHeap} (hk : vmach P sh k f args H b = some r) : F P sh f args H b = some r := F_iff.2 ⟨k, hk⟩
theorem opt_ext {α : Type} {x y : Option α} (h : ∀ a, x = some a ↔ y = some a) : x = y := by
  cases x with
  | none => cases y with
    | none => rfl
    | some b => exact ((h b).2 rfl)
  | some a => exact ((h a).1 rfl).symm
theorem vmach_F (k : Nat) : VLe (vmach P sh k) (F P sh) := fun f args h b r hr => F_of k hr
theorem vcall_F {dst : Option Nat} {g : Nat} {args : List DV} {frz : Bool} {H : VHeap} {r : DV × VEff} : vcall (F P sh) sh base nt dst g args frz H = some r ↔ ∃ k, vcall (vmach P sh k) sh base nt dst g args frz H = some r := by
  constructor
  · intro hi
    unfold vcall at hi ⊢
    split at hi
    · rename_i hs
      split at hi
      · simp at hi
      · rename_i hf
        simp only [Option.map_eq_some_iff] at hi
        obtain ⟨q, h1, h2⟩ := hi
        obtain ⟨k, hk⟩ := F_iff.1 h1
        exact ⟨k, by rw [if_pos hs, if_neg hf]; simp only [Option.map_eq_some_iff]; exact ⟨q, hk, h2⟩⟩
    · rename_i hs
      simp only [Option.bind_eq_some_iff] at hi
      obtain ⟨a, h0, q, h1, h2⟩ := hi
      obtain ⟨k, hk⟩ := F_iff.1 h1
      exact ⟨k, by rw [if_neg hs]; simp only [Option.bind_eq_some_iff]; exact ⟨a, h0, q, hk, h2⟩⟩
  · rintro ⟨k, hk⟩
    exact vcall_mono (vmach_F k) hk
theorem viop_F {dst : Option Nat} {op : IOp} {E : List DV} {H : VHeap} {r : DV × VEff} : viop (F P sh) sh base nt dst op E H = some r ↔ ∃ k, viop (vmach P sh k) sh base nt dst op E H = some r := by
  constructor
  · intro hi
    cases op <;> try exact ⟨0, hi⟩
    simp only [viop] at hi ⊢
    split at hi
    · obtain ⟨k, hk⟩ := vcall_F.1 hi
      exact ⟨k, hk⟩
    · simp at hi
  · rintro ⟨k, hk⟩
    exact viop_mono (vmach_F k) hk
theorem vop_F {o : IOper} {s s' : VSt} : vop (F P sh) sh base nt o s = some s' ↔ ∃ k, vop (vmach P sh k) sh base nt o s = some s' := by
  constructor
  · intro hr
    unfold vop at hr ⊢
    split at hr
    · simp only [Option.map_eq_some_iff] at hr
      obtain ⟨q, h1, h2⟩ := hr
      obtain ⟨k, hk⟩ := viop_F.1 h1
      exact ⟨k, by simp only [Option.map_eq_some_iff]; exact ⟨q, hk, h2⟩⟩
    · exact ⟨0, hr⟩
    · simp at hr
  · rintro ⟨k, hk⟩
    exact vop_mono (vmach_F k) hk
theorem vops_F : ∀ {os : List IOper} {s s' : VSt}, vops (F P sh) sh base nt os s = some s' ↔ ∃ k, vops (vmach P sh k) sh base nt os s = some s'
  | [], s, s' => ⟨fun h => ⟨0, h⟩, fun ⟨_, h⟩ => h⟩
  | o :: os, s, s' => by
    constructor
    · intro hr
      simp only [vops, Option.bind_eq_some_iff] at hr ⊢
      obtain ⟨s1, h1, h2⟩ := hr
      obtain ⟨k, hk⟩ := vop_F.1 h1
      obtain ⟨l, hl⟩ := vops_F.1 h2
      exact ⟨max k l, s1, vop_mono (vmach_le (Nat.le_max_left _ _)) hk, vops_mono (vmach_le (Nat.le_max_right _ _)) hl⟩
    · rintro ⟨k, hk⟩
      exact vops_mono (vmach_F k) hk
theorem vopD_F {o : IOper} {E E' : List DV} {H : VHeap} : vopD (F P sh) sh base nt o E H = some E' ↔ ∃ k, vopD (vmach P sh k) sh base nt o E H = some E' := by
  constructor
  · intro hr
    unfold vopD at hr ⊢
    split at hr
    · split at hr
      · rename_i v hi
        obtain ⟨k, hk⟩ := viop_F.1 hi
        exact ⟨k, by simp only [hk]; exact hr⟩
      · simp at hr
    · exact ⟨0, hr⟩
    · simp at hr
  · rintro ⟨k, hk⟩
    exact vopD_mono (vmach_F k) hk
theorem vopsD_F : ∀ {os : List IOper} {E E' : List DV} {H : VHeap}, vopsD (F P sh) sh base nt os E H = some E' ↔ ∃ k, vopsD (vmach P sh k) sh base nt os E H = some E'
  | [], E, E', H => ⟨fun h => ⟨0, h⟩, fun ⟨_, h⟩ => h⟩
  | o :: os, E, E', H => by
    constructor
    · intro hr
      simp only [vopsD, Option.bind_eq_some_iff] at hr ⊢
      obtain ⟨s1, h1, h2⟩ := hr
      obtain ⟨k, hk⟩ := vopD_F.1 h1
      obtain ⟨l, hl⟩ := vopsD_F.1 h2
      exact ⟨max k l, s1, vopD_mono (vmach_le (Nat.le_max_left _ _)) hk, vopsD_mono (vmach_le (Nat.le_max_right _ _)) hl⟩
    · rintro ⟨k, hk⟩
      exact vopsD_mono (vmach_F k) hk

theorem viopE_F {dst : Option Nat} {op : IOp} {E : List DV} {H : VHeap} {r : DV × VEff} : viopE (F P sh) sh base nt dst op E H = some r ↔ ∃ k, viopE (vmach P sh k) sh base nt dst op E H = some r := by
  constructor
  · intro hi
    cases op <;> simp only [viopE] at hi ⊢
    case call f args frz =>
      split at hi
      · unfold vcallE at hi ⊢
        split at hi
        · rename_i hs
          split at hi
          · simp at hi
          · rename_i hf
            simp only [Option.map_eq_some_iff] at hi
            obtain ⟨q, h1, h2⟩ := hi
            obtain ⟨k, hk⟩ := F_iff.1 h1
            exact ⟨k, by rw [if_pos hs, if_neg hf]; simp only [Option.map_eq_some_iff]; exact ⟨q, hk, h2⟩⟩
        · rename_i hs
          obtain ⟨k, hk⟩ := vcall_F.1 hi
          exact ⟨k, by rw [if_neg hs]; exact hk⟩
      · simp at hi
    all_goals exact viop_F.1 hi
  · rintro ⟨k, hk⟩
    exact viopE_mono (vmach_F k) hk
theorem vopE_F {o : IOper × Nat × Nat × Nat} {s s' : VE} : vopE (F P sh) sh base nt o s = some s' ↔ ∃ k, vopE (vmach P sh k) sh base nt o s = some s' := by
  constructor
  · intro hr
    unfold vopE at hr ⊢
    split at hr
    · exact ⟨0, hr⟩
    · split at hr
      · split at hr
        · split at hr
          · rename_i hp
            simp only [Option.map_eq_some_iff] at hr
            obtain ⟨q, h1, h2⟩ := hr
            obtain ⟨k, hk⟩ := viop_F.1 h1
            exact ⟨k, by simp only [hp, ↓reduceIte, Option.map_eq_some_iff]; exact ⟨q, hk, h2⟩⟩
          · simp at hr
        · split at hr
          · rename_i hp
            simp only [Option.map_eq_some_iff] at hr
            obtain ⟨q, h1, h2⟩ := hr
            obtain ⟨k, hk⟩ := viop_F.1 h1
            exact ⟨k, by simp only [hp, ↓reduceIte, Option.map_eq_some_iff]; exact ⟨q, hk, h2⟩⟩
          · simp at hr
        · simp only [Option.map_eq_some_iff] at hr
          obtain ⟨q, h1, h2⟩ := hr
          obtain ⟨k, hk⟩ := viopE_F.1 h1
          exact ⟨k, by simp only [Option.map_eq_some_iff]; exact ⟨q, hk, h2⟩⟩
      · exact ⟨0, hr⟩
      · simp at hr
  · rintro ⟨k, hk⟩
    exact vopE_mono (vmach_F k) hk
theorem vopsE_F : ∀ {os : List (IOper × Nat × Nat × Nat)} {s s' : VE}, vopsE (F P sh) sh base nt os s = some s' ↔ ∃ k, vopsE (vmach P sh k) sh base nt os s = some s'
  | [], s, s' => ⟨fun h => ⟨0, h⟩, fun ⟨_, h⟩ => h⟩
  | o :: os, s, s' => by
    constructor
    · intro hr
      simp only [vopsE, Option.bind_eq_some_iff] at hr ⊢
      obtain ⟨s1, h1, h2⟩ := hr
      obtain ⟨k, hk⟩ := vopE_F.1 h1
      obtain ⟨l, hl⟩ := vopsE_F.1 h2
      exact ⟨max k l, s1, vopE_mono (vmach_le (Nat.le_max_left _ _)) hk, vopsE_mono (vmach_le (Nat.le_max_right _ _)) hl⟩
    · rintro ⟨k, hk⟩
      exact vopsE_mono (vmach_F k) hk
theorem vrgE_F {os : List (IOper × Nat × Nat × Nat)} {s : VSt} {r : Ex × VSt} : vrgE (F P sh) sh base nt os s = some r ↔ ∃ k, vrgE (vmach P sh k) sh base nt os s = some r := by
  constructor
  · intro hr
    unfold vrgE at hr ⊢
    simp only [Option.bind_eq_some_iff] at hr ⊢
    obtain ⟨H0, h1, t, h2, h3⟩ := hr
    obtain ⟨k, hk⟩ := vopsE_F.1 h2
    exact ⟨k, H0, h1, t, hk, h3⟩
  · rintro ⟨k, hk⟩
    exact vrgE_mono (vmach_F k) hk
/-! ### What code comes to, in equations -/
theorem R_rgE (ops : List (IOper × Nat × Nat × Nat)) (s : VSt) : R P sh base nt (.rgE ops) s = vrgE (F P sh) sh base nt ops s := by
  apply opt_ext
  intro a
  rw [R_iff]
  simp only [vrun]
  exact vrgE_F.symm
theorem R_skip (s : VSt) : R P sh base nt .skip s = some (.normal, s) := R_iff.2 ⟨0, rfl⟩
theorem R_exit (id : Nat) (s : VSt) : R P sh base nt (.exit id) s = some (.exit id, s) := R_iff.2 ⟨0, rfl⟩
theorem R_ret (s : VSt) : R P sh base nt .ret s = some (.ret, s) := R_iff.2 ⟨0, rfl⟩
theorem R_reg (ops : List IOper) (s : VSt) : R P sh base nt (.reg false ops) s = (vops (F P sh) sh base nt ops s).map fun s' => (.normal, s') := by
  apply opt_ext
  intro a
  rw [R_iff]
  simp only [vrun, Option.map_eq_some_iff]
  constructor
  · rintro ⟨k, s', h1, h2⟩; exact ⟨s', vops_F.2 ⟨k, h1⟩, h2⟩
  · rintro ⟨s', h1, h2⟩
    obtain ⟨k, hk⟩ := vops_F.1 h1
    exact ⟨k, s', hk, h2⟩
theorem R_regD (ops : List IOper) (s : VSt) : R P sh base nt (.reg true ops) s = (vopsD (F P sh) sh base nt ops s.E s.H).map fun E' => (.normal, ⟨E', s.H⟩) := by
  apply opt_ext
  intro a
  rw [R_iff]
  simp only [vrun, Option.map_eq_some_iff]
  constructor
  · rintro ⟨k, s', h1, h2⟩; exact ⟨s', vopsD_F.2 ⟨k, h1⟩, h2⟩
  · rintro ⟨s', h1, h2⟩
    obtain ⟨k, hk⟩ := vopsD_F.1 h1
    exact ⟨k, s', hk, h2⟩
/-- Go on, if the end was reached. -/
def thn (r : Ex × VSt) (f : VSt → Option (Ex × VSt)) : Option (Ex × VSt) := match r.1 with
  | .normal => f r.2
  | x => some (x, r.2)
theorem thn_normal (s : VSt) (f : VSt → Option (Ex × VSt)) : thn (.normal, s) f = f s := rfl
theorem thn_exit (id : Nat) (s : VSt) (f : VSt → Option (Ex × VSt)) : thn (.exit id, s) f = some (.exit id, s) := rfl
theorem thn_ret (s : VSt) (f : VSt → Option (Ex × VSt)) : thn (.ret, s) f = some (.ret, s) := rfl
theorem R_seq (a b : ICode) (s : VSt) : R P sh base nt (.seq a b) s = (R P sh base nt a s).bind fun r => thn r (R P sh base nt b) := by
  apply opt_ext
  intro z
  rw [R_iff]
  simp only [vrun, Option.bind_eq_some_iff]
  constructor
  · rintro ⟨k, r, h1, h2⟩
    refine ⟨r, R_iff.2 ⟨k, h1⟩, ?_⟩
    obtain ⟨x, s1⟩ := r
    cases x with
    | normal => exact R_iff.2 ⟨k, h2⟩
    | exit id => exact h2
    | ret => exact h2
  · rintro ⟨r, h1, h2⟩
    obtain ⟨k, hk⟩ := R_iff.1 h1
    obtain ⟨x, s1⟩ := r
    cases x with
    | normal =>
      obtain ⟨l, hl⟩ := R_iff.1 h2
      exact ⟨max k l, _, vrun_mono (vmach_le (Nat.le_max_left _ _)) (Nat.le_max_left _ _) hk, vrun_mono (vmach_le (Nat.le_max_right _ _)) (Nat.le_max_right _ _) hl⟩
    | exit id => exact ⟨k, _, hk, h2⟩
    | ret => exact ⟨k, _, hk, h2⟩
theorem R_cond (c : Opd) (a b : ICode) (s : VSt) : R P sh base nt (.cond c a b) s = match vev s.E c with
    | .lit (.bool true) => R P sh base nt a s
    | .lit (.bool false) => R P sh base nt b s
    | _ => none := by
  apply opt_ext
  intro z
  rw [R_iff]
  simp only [vrun]
  constructor
  · rintro ⟨k, h⟩
    split at h
    · rename_i hx; simp only [hx]; exact R_iff.2 ⟨k, h⟩
    · rename_i hx; simp only [hx]; exact R_iff.2 ⟨k, h⟩
    · simp at h
  · intro h
    split at h
    · rename_i hx; obtain ⟨k, hk⟩ := R_iff.1 h; exact ⟨k, by simp only [hx]; exact hk⟩
    · rename_i hx; obtain ⟨k, hk⟩ := R_iff.1 h; exact ⟨k, by simp only [hx]; exact hk⟩
    · simp at h
def leaveB (id : Nat) (r : Ex × VSt) : Ex × VSt := match r.1 with
  | .exit i => (if i = id then .normal else .exit i, r.2)
  | x => (x, r.2)
theorem R_block (id : Nat) (c : ICode) (s : VSt) : R P sh base nt (.block id c) s = (R P sh base nt c s).map (leaveB id) := by
  apply opt_ext
  intro z
  rw [R_iff]
  simp only [vrun, Option.map_eq_some_iff]
  constructor
  · rintro ⟨k, r, h1, h2⟩
    exact ⟨r, R_iff.2 ⟨k, h1⟩, by rw [← h2]; rfl⟩
  · rintro ⟨r, h1, h2⟩
    obtain ⟨k, hk⟩ := R_iff.1 h1
    exact ⟨k, r, hk, by rw [← h2]; rfl⟩
theorem R_loop (c : ICode) (s : VSt) : R P sh base nt (.loop c) s = (R P sh base nt c s).bind fun r => thn r (R P sh base nt (.loop c)) := by
  apply opt_ext
  intro z
  rw [R_iff]
  simp only [Option.bind_eq_some_iff]
  constructor
  · rintro ⟨k, h⟩
    simp only [vrun] at h
    cases k with
    | zero => simp [viter] at h
    | succ k =>
      simp only [viter, Option.bind_eq_some_iff] at h
      obtain ⟨r, h1, h2⟩ := h
      refine ⟨r, R_iff.2 ⟨k + 1, h1⟩, ?_⟩
      obtain ⟨x, s1⟩ := r
      cases x with
      | normal => exact R_iff.2 ⟨k + 1, by simp only [vrun]; exact viter_mono (fun _ _ h => h) (Nat.le_succ k) h2⟩
      | exit id => exact h2
      | ret => exact h2
  · rintro ⟨r, h1, h2⟩
    obtain ⟨k, hk⟩ := R_iff.1 h1
    obtain ⟨x, s1⟩ := r
    cases x with
    | normal =>
      obtain ⟨l, hl⟩ := R_iff.1 h2
      simp only [vrun] at hl
      refine ⟨max k l + 1, ?_⟩
      simp only [vrun, viter, Option.bind_eq_some_iff]
      refine ⟨_, vrun_mono (vmach_le (by omega)) (by omega) hk, ?_⟩
      exact viter_mono (fun s r h => vrun_mono (vmach_le (by omega)) (by omega) h) (by omega) hl
    | exit id =>
      refine ⟨k + 1, ?_⟩
      simp only [vrun, viter, Option.bind_eq_some_iff]
      exact ⟨_, vrun_mono (vmach_le (by omega)) (by omega) hk, h2⟩
    | ret =>
      refine ⟨k + 1, ?_⟩
      simp only [vrun, viter, Option.bind_eq_some_iff]
      exact ⟨_, vrun_mono (vmach_le (by omega)) (by omega) hk, h2⟩

/-- What is made of a body's end. -/
def endF (rs : List IRes) (r : Ex × VSt) : Option (DV × VHeap) := match r.1 with
  | .exit _ => none
  | _ => (vresL r.2.E r.2.H rs).map fun vs => (vtup vs, r.2.H)
theorem endF_ret (rs : List IRes) (s : VSt) : endF rs (.ret, s) = (vresL s.E s.H rs).map fun vs => (vtup vs, s.H) := rfl
theorem endF_normal (rs : List IRes) (s : VSt) : endF rs (.normal, s) = (vresL s.E s.H rs).map fun vs => (vtup vs, s.H) := rfl
theorem F_fun {f : Nat} {fn : IFun} (hf : P f = some fn) (hi : fn.iso = sh f) {args : List DV} {H : VHeap} {b : Nat} (hl : args.length ≤ fn.ntmps ∧ H.length ≤ b) (hq : clq fn args = false := by rfl) :
    F P sh f args H b = (R P sh b fn.ntmps fn.body ⟨args, H⟩).bind (endF fn.res) := by
  apply opt_ext
  intro z
  rw [F_iff]
  simp only [Option.bind_eq_some_iff]
  have key : ∀ r : Ex × VSt, ((match r.1 with
      | .exit _ => none
      | _ => (vresL r.2.E r.2.H fn.res).map fun vs => (vtup vs, r.2.H)) : Option (DV × VHeap)) = endF fn.res r := by
    rintro ⟨x, s⟩
    cases x <;> rfl
  constructor
  · rintro ⟨k, hk⟩
    cases k with
    | zero => simp [vmach] at hk
    | succ k =>
      simp only [vmach, vstep, hf, vrunFun] at hk
      rw [if_pos hi, if_neg (by simp [hq]), if_pos hl] at hk
      simp only [Option.bind_eq_some_iff] at hk
      obtain ⟨r, h1, h2⟩ := hk
      exact ⟨r, R_iff.2 ⟨k, h1⟩, by rw [← key]; exact h2⟩
  · rintro ⟨r, h1, h2⟩
    obtain ⟨k, hk⟩ := R_iff.1 h1
    refine ⟨k + 1, ?_⟩
    simp only [vmach, vstep, hf, vrunFun]
    rw [if_pos hi, if_neg (by simp [hq]), if_pos hl]
    simp only [Option.bind_eq_some_iff]
    exact ⟨r, hk, by rw [← key] at h2; exact h2⟩
/-- The copy of a list without elements. -/
theorem F_clone {f : Nat} {fn : IFun} (hf : P f = some fn) (hi : fn.iso = sh f) (hq : cloneB fn = true) : F P sh f [.sl []] [] 0 = some (.sl [], []) := by
  refine F_of 1 ?_
  simp only [vmach, vstep, hf]
  rw [if_pos hi, if_pos (by simp [clq, hq, sl0B])]
  rfl

/-- A loop, by what holds at each round's head. -/
theorem R_loop_inv {c : ICode} (I : Nat → VSt → Prop) (Q : Ex × VSt → Prop)
    (hs : ∀ n s, I n s → ∃ r, R P sh base nt c s = some r ∧ ((r.1 = .normal ∧ ∃ m, m < n ∧ I m r.2) ∨ (r.1 ≠ .normal ∧ Q r))) :
    ∀ n s, I n s → ∃ r, R P sh base nt (.loop c) s = some r ∧ Q r := by
  intro n
  induction n using Nat.strongRecOn with
  | _ n ih =>
    intro s hI
    obtain ⟨r, h1, h2⟩ := hs n s hI
    rw [R_loop, h1]
    simp only [Option.bind_some]
    obtain ⟨x, s1⟩ := r
    rcases h2 with ⟨rfl, m, hm, hI'⟩ | ⟨hne, hQ⟩
    · rw [thn_normal]; exact ih m hm s1 hI'
    · cases x with
      | normal => exact absurd rfl hne
      | exit id => exact ⟨_, rfl, hQ⟩
      | ret => exact ⟨_, rfl, hQ⟩
end Go.Proofs.Cp
