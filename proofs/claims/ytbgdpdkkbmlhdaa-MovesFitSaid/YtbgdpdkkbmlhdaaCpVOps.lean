/- The second machine's operations beside the first's. No program in sight. -/
import Derived.Test.YtbgdpdkkbmlhdaaCpVOps2
set_option linter.unusedSimpArgs false
set_option linter.unusedVariables false
namespace Go.Proofs.Cp
open Go
variable {base : Nat} {S0 : Cx} {h0 : Heap} {H0 : VHeap} {pr : Nat → Prop} {S : Cx} {h : Heap} {H : VHeap}

theorem ld1_ldN {h : Heap} {b o n : Nat} {vs : List Value} (hn : ldN h b o n = some vs) {k : Nat} {v : Value} (hv : vs[k]? = some v) : ld1 h b (o + k) = some v := by
  have hk : k < n := by rw [← (ldN_ld1 hn).1]; exact (List.getElem?_eq_some_iff.1 hv).1
  rw [(ldN_ld1 hn).2 k hk]; exact hv
theorem at_ld (hx : HX S pr h H) {b ver i : Nat} {el : List DV} (ha : (hg H b).at_ ver i = some el) {k n : Nat} (hk : k + n ≤ el.length) :
    ver = S.ver b ∧ ∃ vs, ldN h (S.j b) (i * S.e b + k) n = some vs ∧ DRs S h vs ((el.drop k).take n) := by
  obtain ⟨_, hv, _, xs, h1, h2, h3⟩ := hx.at_ ha
  refine ⟨hv, _, ldN_of h1 (by omega), ?_⟩
  have := (h3.drop k).take n
  rw [List.drop_take, List.drop_drop, List.take_take, Nat.min_eq_left (by omega)] at this
  exact this
theorem at_ld1 (hx : HX S pr h H) {b ver i k : Nat} {el : List DV} {d : DV} (ha : (hg H b).at_ ver i = some el) (hd : el[k]? = some d) : ver = S.ver b ∧ ∃ v, ld1 h (S.j b) (i * S.e b + k) = some v ∧ DR S h v d := by
  have hk := (List.getElem?_eq_some_iff.1 hd).1
  obtain ⟨hv, vs, h1, h2⟩ := at_ld hx ha (k := k) (n := 1) (by omega)
  obtain ⟨v, h3, h4⟩ := h2.get (i := 0) (d := d) (by rw [List.getElem?_take, if_pos (by omega), List.getElem?_drop]; exact hd)
  exact ⟨hv, v, ld1_ldN h1 h3, h4⟩
theorem DR.rp_ld {v : Value} {l : List DV} (hr : DR S h v (.rp l)) : ∃ b o, v = .pointer (some ⟨b, o, none⟩) ∧ (∀ k n, k + n ≤ l.length → ∃ vs, ldN h b (o + k) n = some vs ∧ DRs S h vs ((l.drop k).take n)) ∧
    (∀ k, k ≤ l.length → DR S h (.pointer (some ⟨b, o + k, none⟩)) (.rp (l.drop k))) := by
  obtain ⟨b, o, rfl, hst, hcl, vs, h1, h2, ro, e, xs, hx, hle⟩ := hr.rp_inv
  have hvs : vs = (xs.drop o).take l.length := by rw [ldN_of hx hle] at h1; simpa using h1.symm
  have key : ∀ k n, k + n ≤ l.length → DRs S h ((xs.drop (o + k)).take n) ((l.drop k).take n) := by
    intro k n hk
    have := (h2.drop k).take n
    rw [hvs, List.drop_take, List.drop_drop, List.take_take, Nat.min_eq_left (by omega)] at this
    exact this
  refine ⟨b, o, rfl, fun k n hk => ⟨_, ldN_of hx (by omega), key k n hk⟩, fun k hk => ?_⟩
  refine DR.rp_mk hst (closedL_iff.2 fun d hd => closedL_iff.1 hcl d (List.mem_of_mem_drop hd)) hx (by simp; omega) ?_
  have := key k (l.length - k) (by omega)
  rw [List.length_drop]
  rwa [List.take_of_length_le (l := l.drop k) (by simp)] at this

theorem DR.aggL {vs : List Value} {l : List DV} (hd : DRs S h vs l) : DR S h (.agg vs.toArray) (.agg l) := .agg _ _ (by simpa using hd.1) (by simpa using hd.2)
theorem viop_sound {nt : Nat} {vc : VCalls} {mc : Calls_} {sh : Nat → Bool} {dst : Option Nat} {op : IOp} {e : Env} {E : List DV} {d : DV} {ef' : VEff}
    (A : Act base S0 h0 H0 pr S h H) (hE : ERel S h e E)
    (hcall : ∀ g args frz vs, DRs S h vs args → vcall vc sh base nt dst g args frz H = some (d, ef') → ∃ v ef, (mc g vs h).map (fun r => (r.1, match r.2 with
          | none => none
          | some (h', w) => some (if frz then frzFrom h.length h' else h', w))) = some (v, ef) ∧ (ef' = none → ef = none) ∧ Out base S0 h0 H0 pr S h v ef d (ef'.getD H))
    (hio : viop vc sh base nt dst op E H = some (d, ef')) :
    ∃ v ef, iop mc op e h = some (v, ef) ∧ (ef' = none → ef = none) ∧ Out base S0 h0 H0 pr S h v ef d (ef'.getD H) := by
  have quiet : ∀ {v : Value} {d : DV} {p : Prop}, DR S h v d → ∃ v' ef, some (v, (none : Eff)) = some (v', ef) ∧ (p → ef = none) ∧ Out base S0 h0 H0 pr S h v' ef d ((none : VEff).getD H) :=
    fun {v d p} hd => ⟨v, none, rfl, fun _ => rfl, .quiet A hd⟩
  cases op <;> simp only [viop] at hio <;> simp only [iop]
  case move x => simp at hio; obtain ⟨rfl, rfl⟩ := hio; exact quiet (hE.ev x)
  case pick c a b =>
    split at hio
    · rename_i t hc
      have := hE.ev c; rw [hc] at this
      rw [this.bool_inv]
      simp at hio; obtain ⟨rfl, rfl⟩ := hio
      simp only
      cases t
      · simp only [Bool.false_eq_true, ↓reduceIte]; exact quiet (hE.ev b)
      · simp only [↓reduceIte]; exact quiet (hE.ev a)
    · simp at hio
  case box x =>
    split at hio
    · rename_i hone
      obtain ⟨id, hid, rfl, rfl⟩ := newB_inv hio
      obtain ⟨h1, _⟩ := cells_rel (hE.ev x) hone
      exact ⟨_, _, rfl, by simp, .newP A hid ⟨.inr ⟨rfl, _, rfl⟩, by simpa using h1⟩⟩
    · simp at hio
  case alloc zs =>
    obtain ⟨id, hid, rfl, rfl⟩ := newB_inv hio
    exact ⟨_, _, rfl, by simp, .newP A hid ⟨.inr ⟨rfl, _, rfl⟩, by simpa using dvLeafs_rel zs⟩⟩
  case build zs ps =>
    simp only [Option.map_eq_some_iff, Prod.mk.injEq] at hio
    obtain ⟨cs, h1, rfl, rfl⟩ := hio
    obtain ⟨hl, hr⟩ := vPs_rel hE ps
    obtain ⟨vs, h2, h3⟩ := vfill_rel (dvLeafs_rel zs) hl hr h1
    rw [h2]; simp only [Option.map_some]
    exact quiet (.aggL h3)
  case buildSlice esz n zs ps =>
    split at hio
    · rename_i hc
      simp only [Option.bind_eq_some_iff] at hio
      obtain ⟨cs, h1, hio⟩ := hio
      obtain ⟨id, hid, rfl, rfl⟩ := newB_inv hio
      obtain ⟨hl, hr⟩ := vPs_rel hE ps
      obtain ⟨vs, h2, h3⟩ := vfill_rel (dvLeafs_rel zs) hl hr h1
      have hlen : cs.length = esz * n := by
        have : ∀ (ps : List (Nat × Nat × DV)) (Z C : List DV), vfill Z ps = some C → C.length = Z.length := by
          intro ps
          induction ps with
          | nil => intro Z C h; simp [vfill] at h; rw [h]
          | cons p ps ih =>
            intro Z C h
            obtain ⟨o, n, v⟩ := p
            simp only [vfill] at h
            split at h
            · rename_i hc; rw [ih _ _ h]; simp; omega
            · simp at h
        rw [this _ _ _ h1, List.length_map]; exact hc.1.symm
      obtain ⟨c1, c2, c3⟩ := chunks_flat hlen
      rw [h2]; simp only [Option.map_some]
      exact ⟨_, _, rfl, by simp, .newS A hid ⟨.inl c3, by rw [c1]; exact h3⟩ _ _⟩
    · simp at hio
  case load1 a =>
    split at hio
    · rename_i l hl
      have := hE.ev a; rw [hl] at this
      obtain ⟨b, o, hv, h1, _⟩ := this.rp_ld
      rw [hv]
      simp only [Option.map_eq_some_iff, Prod.mk.injEq] at hio
      obtain ⟨d', hd, rfl, rfl⟩ := hio
      cases l with
      | nil => simp at hd
      | cons x l =>
        simp at hd; subst hd
        obtain ⟨vs, h2, h3⟩ := h1 0 1 (by simp)
        obtain ⟨v, h4, h5⟩ := h3.get (i := 0) (d := x) rfl
        have := ld1_ldN h2 h4
        simp only [Nat.add_zero] at this
        simp only [this, Option.map_some]
        exact quiet h5
    · rename_i b ver i k hl
      have := hE.ev a; rw [hl] at this
      obtain ⟨p, hv, _, _, hp⟩ := this.mp_inv
      rw [hv]
      simp only [Option.bind_eq_some_iff, Option.map_eq_some_iff, Prod.mk.injEq] at hio
      obtain ⟨el, hel, d', hd, rfl, rfl⟩ := hio
      obtain ⟨hver, v, h1, h2⟩ := at_ld1 A.hx hel hd
      rw [hp hver]
      simp only [h1, Option.map_some]
      exact quiet h2
    · simp at hio
  case loadN n a =>
    split at hio
    · rename_i l hl
      have := hE.ev a; rw [hl] at this
      obtain ⟨b, o, hv, h1, _⟩ := this.rp_ld
      rw [hv]
      split at hio
      · rename_i hle
        simp at hio; obtain ⟨rfl, rfl⟩ := hio
        obtain ⟨vs, h2, h3⟩ := h1 0 n (by omega)
        simp only [Nat.add_zero] at h2
        simp only [h2, Option.map_some]
        exact quiet (.aggL h3)
      · simp at hio
    · rename_i b ver i k hl
      have := hE.ev a; rw [hl] at this
      obtain ⟨p, hv, _, _, hp⟩ := this.mp_inv
      rw [hv]
      simp only [Option.bind_eq_some_iff] at hio
      obtain ⟨el, hel, hio⟩ := hio
      split at hio
      · rename_i hle
        simp at hio; obtain ⟨rfl, rfl⟩ := hio
        obtain ⟨hver, vs, h1, h2⟩ := at_ld A.hx hel hle
        rw [hp hver]
        simp only [h1, Option.map_some]
        exact quiet (.aggL h2)
      · simp at hio
    · simp at hio
  case store n a x =>
    split at hio
    · rename_i b ver i k hl
      have := hE.ev a; rw [hl] at this
      obtain ⟨p, hv, _, _, hp⟩ := this.mp_inv
      rw [hv]
      split at hio
      · rename_i hn
        simp only [Option.map_eq_some_iff, Prod.mk.injEq] at hio
        obtain ⟨H', hput, rfl, rfl⟩ := hio
        have hone : (cellsD (vev E x)).all oneD = true := by
          unfold putE at hput
          split at hput
          · split at hput
            · rename_i hc; exact hc.2
            · simp at hput
          · simp at hput
        obtain ⟨h1, h2⟩ := cells_rel (hE.ev x) hone
        obtain ⟨hver, h', h3, h4⟩ := putE_rel A h1 h2 hput (DR.bad undef)
        have hs : (ev e x).cells.size = n := by rw [← hn, ← h1.1]; simp
        rw [hp hver]
        simp only [hs, ↓reduceIte, h3, Option.map_some]
        exact ⟨_, _, rfl, by simp, h4⟩
      · simp at hio
    · simp at hio
  case nilCheck x =>
    split at hio
    · rename_i l hl
      have := hE.ev x; rw [hl] at this
      simp at hio; obtain ⟨rfl, rfl⟩ := hio
      obtain ⟨b, o, hv, _⟩ := this.rp_ld
      rw [hv] at this ⊢
      exact quiet this
    · rename_i b ver i k hl
      have := hE.ev x; rw [hl] at this
      split at hio
      · simp at hio; obtain ⟨rfl, rfl⟩ := hio
        obtain ⟨p, hv, _⟩ := this.mp_inv
        rw [hv] at this ⊢
        exact quiet this
      · simp at hio
    · simp at hio
  case bin op x y =>
    simp only [Option.map_eq_some_iff, Prod.mk.injEq] at hio
    obtain ⟨d', h1, rfl, rfl⟩ := hio
    unfold vbin at h1
    split at h1
    · rename_i a b ha hb
      simp only [Option.map_eq_some_iff] at h1
      obtain ⟨v, h1, rfl⟩ := h1
      have r1 := hE.ev x; rw [ha] at r1
      have r2 := hE.ev y; rw [hb] at r2
      rw [r1.lit_inv.1, r2.lit_inv.1, h1]
      exact quiet (.lit _ (bin_scal h1))
    · simp at h1
  case eqn kind neg x y =>
    simp only [Option.map_eq_some_iff, Prod.mk.injEq] at hio
    obtain ⟨b, h1, rfl, rfl⟩ := hio
    have r1 := hE.ev x
    have r2 := hE.ev y
    have : eqN kind (ev e x) (ev e y) = some b := by
      unfold veqN at h1
      split at h1
      · rename_i ha hb
        rw [ha] at r1; rw [hb] at r2
        rw [r1.lit_inv.1, r2.lit_inv.1]; exact h1
      · rename_i ha hb
        rw [ha] at r1; rw [hb] at r2
        rw [r1.lit_inv.1, r2.lit_inv.1]; exact h1
      · rename_i ha hb
        rw [ha] at r1; rw [hb] at r2
        obtain ⟨b, o, hv, _⟩ := r1.rp_ld
        rw [hv, r2.lit_inv.1]; exact h1
      · rename_i ha hb
        rw [ha] at r1; rw [hb] at r2
        rw [r1.lit_inv.1, r2.lit_inv.1]; exact h1
      · rename_i ha hb
        rw [ha] at r1; rw [hb] at r2
        rcases r1.sl_inv with ⟨_, hl⟩ | ⟨b, o, e', c, hv, _⟩
        · simp at hl
        · rw [hv, r2.lit_inv.1]; exact h1
      · rename_i ha hb
        rw [ha] at r1; rw [hb] at r2
        obtain ⟨a, hv, _⟩ := r1.ms_inv
        rw [hv, r2.lit_inv.1]; exact h1
      · simp at h1
    rw [this]
    exact quiet (.lit (.bool _) rfl)
  case eqs neg n fs x y =>
    split at hio
    · rename_i xs ys ha hb
      have r1 := hE.ev x; rw [ha] at r1
      have r2 := hE.ev y; rw [hb] at r2
      obtain ⟨cs, h1, h2⟩ := r1.agg_inv
      obtain ⟨ds, h3, h4⟩ := r2.agg_inv
      rw [h1, h3]
      split at hio
      · rename_i hn
        simp only [Option.map_eq_some_iff, Prod.mk.injEq] at hio
        obtain ⟨b, h5, rfl, rfl⟩ := hio
        simp only
        rw [if_pos (by rw [h2.1, h4.1]; exact hn), veqsL_rel h2 h4 h5]
        exact quiet (.lit (.bool _) rfl)
      · simp at hio
    · simp at hio
  case un op x =>
    split at hio
    · rename_i a ha
      simp only [Option.map_eq_some_iff, Prod.mk.injEq] at hio
      obtain ⟨v, h1, rfl, rfl⟩ := hio
      have r1 := hE.ev x; rw [ha] at r1
      rw [r1.lit_inv.1, h1]
      exact quiet (.lit _ (unV_scal h1))
    · simp at hio
  case conv k x =>
    split at hio
    · rename_i k' n ha
      simp at hio; obtain ⟨rfl, rfl⟩ := hio
      have r1 := hE.ev x; rw [ha] at r1
      rw [r1.int_inv]
      exact quiet (.lit _ rfl)
    · simp at hio
  case mkFunc f caps =>
    simp at hio; obtain ⟨rfl, rfl⟩ := hio
    exact quiet (.fn _ _ _ (by simp) (by simpa using (hE.evs caps).2))
  case mkSlice esz bytes zs l c =>
    split at hio
    · rename_i k n k' m ha hb
      split at hio
      · rename_i hc
        obtain ⟨c1, c2, c3, c4, c5, c6⟩ := hc
        obtain ⟨id, hid, rfl, rfl⟩ := newB_inv hio
        have r1 := hE.ev l; rw [ha] at r1
        have r2 := hE.ev c; rw [hb] at r2
        rw [r1.int_inv, r2.int_inv]
        simp only
        rw [if_pos ⟨c1, c2, c3, c4⟩]
        refine ⟨_, _, rfl, by simp, .newS A hid ⟨.inl fun el hel => ?_, zeros_rel zs _⟩ _ _⟩
        rw [List.eq_of_mem_replicate hel]; simp [c5]
      · simp at hio
    · simp at hio
  case slice esz x lo hi =>
    simp only [Option.map_eq_some_iff, Prod.mk.injEq] at hio
    obtain ⟨d', h1, rfl, rfl⟩ := hio
    have ho : ∀ o : Option Opd, (o.map (ev e) = none ∧ o.map (vev E) = none) ∨ ∃ x X, o.map (ev e) = some x ∧ o.map (vev E) = some X ∧ DR S h x X := by
      intro o
      cases o with
      | none => exact .inl ⟨rfl, rfl⟩
      | some o => exact .inr ⟨_, _, rfl, rfl, hE.ev o⟩
    obtain ⟨b, l, c, w, h2, h3, h4⟩ := vslice_rel A (hE.ev x) (ho lo) (ho hi) h1
    rw [h2]
    simp only [h3, Option.map_some]
    exact quiet h4
  case fieldAddr off x =>
    split at hio
    · rename_i l hl
      have := hE.ev x; rw [hl] at this
      split at hio
      · rename_i hle
        simp at hio; obtain ⟨rfl, rfl⟩ := hio
        obtain ⟨b, o, hv, _, h2⟩ := this.rp_ld
        rw [hv]
        exact quiet (h2 off hle)
      · simp at hio
    · rename_i b ver i k hl
      have := hE.ev x; rw [hl] at this
      simp at hio; obtain ⟨rfl, rfl⟩ := hio
      obtain ⟨p, hv, h1, h2, h3⟩ := this.mp_inv
      rw [hv]
      exact quiet (.mp _ _ _ _ _ h1 h2 (fun he => by rw [h3 he, Nat.add_assoc]))
    · simp at hio
  case field1 off x =>
    split at hio
    · rename_i l hl
      have := hE.ev x; rw [hl] at this
      obtain ⟨cs, h1, h2⟩ := this.agg_inv
      simp only [Option.map_eq_some_iff, Prod.mk.injEq] at hio
      obtain ⟨d', h3, rfl, rfl⟩ := hio
      obtain ⟨v, h4, h5⟩ := h2.get h3
      rw [h1]
      simp only [h4, Option.map_some]
      exact quiet h5
    · simp at hio
  case fieldN off n x =>
    split at hio
    · rename_i l hl
      have := hE.ev x; rw [hl] at this
      obtain ⟨cs, h1, h2⟩ := this.agg_inv
      split at hio
      · rename_i hle
        simp at hio; obtain ⟨rfl, rfl⟩ := hio
        rw [h1]
        simp only
        rw [if_pos (by rw [h2.1]; exact hle)]
        have := (h2.drop off).take n
        exact quiet (.aggL this)
      · simp at hio
    · simp at hio
  case idxAddr esz x i =>
    split at hio
    · rename_i L k j hl hi
      have r1 := hE.ev x; rw [hl] at r1
      have r2 := hE.ev i; rw [hi] at r2
      rw [r2.int_inv]
      split at hio
      · rename_i hc
        simp only [Option.bind_eq_some_iff] at hio
        obtain ⟨el, h1, hio⟩ := hio
        split at hio
        · rename_i he
          simp at hio; obtain ⟨rfl, rfl⟩ := hio
          rcases r1.sl_inv with ⟨_, rfl⟩ | ⟨b, o, e', c, hv, hcc, hst, hu, ro, xs, hx, hle, hrs⟩
          · simp at h1
          · rw [hv]
            simp only
            rw [if_pos hc]
            have hee := hu el (List.mem_of_getElem? h1)
            have : e' = esz := by rw [← hee.1]; exact he
            subst this
            refine quiet (DR.rp_mk hst hee.2 hx ?_ ?_)
            · have hlt : j.toNat < L.length := (List.getElem?_eq_some_iff.1 h1).1
              have := Nat.mul_le_mul_right e' hlt
              rw [Nat.succ_mul] at this
              omega
            · obtain ⟨X, C, hf, hX, _⟩ := flat_split (e := e') (.inl fun el h => (hu el h).1) h1
              have := (hrs.drop (j.toNat * e')).take el.length
              rw [hf, ← hX] at this
              rw [List.drop_take, List.drop_drop, List.take_take] at this
              simp only [List.append_assoc, List.drop_left, List.take_left] at this
              rw [hX] at this
              have hlt : j.toNat < L.length := (List.getElem?_eq_some_iff.1 h1).1
              have hm := Nat.mul_le_mul_right e' hlt
              rw [Nat.succ_mul] at hm
              rw [Nat.min_eq_left (by omega)] at this
              exact this
        · simp at hio
      · simp at hio
    · rename_i b ver i0 l c k j hl hi
      have r1 := hE.ev x; rw [hl] at r1
      have r2 := hE.ev i; rw [hi] at r2
      rw [r2.int_inv]
      split at hio
      · rename_i hc
        obtain ⟨c1, c2, c3, c4, c5⟩ := hc
        simp at hio; obtain ⟨rfl, rfl⟩ := hio
        obtain ⟨p, hv, h1, h2, h3⟩ := r1.ms_inv
        rw [hv]
        simp only
        rw [if_pos ⟨c1, c2⟩]
        rw [(A.hx.blk b c3).1] at c5
        subst c5
        exact quiet (.mp _ _ _ _ _ h1 h2 (fun he => by rw [h3 he, Nat.add_mul]; rfl))
      · simp at hio
    · simp at hio
  case idxAddrA len esz x i =>
    split at hio
    · rename_i l k j hl hi
      have r1 := hE.ev x; rw [hl] at r1
      have r2 := hE.ev i; rw [hi] at r2
      rw [r2.int_inv]
      split at hio
      · rename_i hc
        simp at hio; obtain ⟨rfl, rfl⟩ := hio
        obtain ⟨b, o, hv, _, h2⟩ := r1.rp_ld
        rw [hv]
        simp only
        rw [if_pos ⟨hc.1, hc.2.1⟩]
        exact quiet (h2 _ hc.2.2)
      · simp at hio
    · rename_i b ver i0 k0 k j hl hi
      have r1 := hE.ev x; rw [hl] at r1
      have r2 := hE.ev i; rw [hi] at r2
      rw [r2.int_inv]
      split at hio
      · rename_i hc
        simp at hio; obtain ⟨rfl, rfl⟩ := hio
        obtain ⟨p, hv, h1, h2, h3⟩ := r1.mp_inv
        rw [hv]
        simp only
        rw [if_pos hc]
        exact quiet (.mp _ _ _ _ _ h1 h2 (fun he => by rw [h3 he, Nat.add_assoc]))
      · simp at hio
    · simp at hio
  case idx1 len x i =>
    split at hio
    · rename_i l k j hl hi
      have r1 := hE.ev x; rw [hl] at r1
      have r2 := hE.ev i; rw [hi] at r2
      rw [r2.int_inv]
      obtain ⟨cs, h1, h2⟩ := r1.agg_inv
      rw [h1]
      split at hio
      · rename_i hc
        simp only [Option.map_eq_some_iff, Prod.mk.injEq] at hio
        obtain ⟨d', h3, rfl, rfl⟩ := hio
        obtain ⟨v, h4, h5⟩ := h2.get h3
        simp only
        rw [if_pos hc, h4]
        exact quiet h5
      · simp at hio
    · simp at hio
  case extract x i =>
    split at hio
    · rename_i l hl
      have := hE.ev x; rw [hl] at this
      obtain ⟨cs, h1, h2⟩ := this.tup_inv
      simp only [Option.map_eq_some_iff, Prod.mk.injEq] at hio
      obtain ⟨d', h3, rfl, rfl⟩ := hio
      obtain ⟨v, h4, h5⟩ := h2.get h3
      rw [h1]
      simp only [h4, Option.map_some]
      exact quiet h5
    · simp at hio
  case call f args frz =>
    split at hio
    · rename_i g caps hf
      have := hE.ev f; rw [hf] at this
      obtain ⟨cs, h1, h2⟩ := this.fn_inv
      rw [h1]
      simp only
      exact hcall g _ frz _ (by simpa using (hE.evs args).append h2) hio
    · simp at hio
  case len x =>
    split at hio
    · rename_i L hl
      simp at hio; obtain ⟨rfl, rfl⟩ := hio
      have := hE.ev x; rw [hl] at this
      rcases this.sl_inv with ⟨⟨_, hv⟩, rfl⟩ | ⟨b, o, e', c, hv, _⟩
      · rw [hv]; exact quiet (.lit _ rfl)
      · rw [hv]; exact quiet (.lit _ rfl)
    · rename_i b ver i l c hl
      split at hio
      · simp at hio; obtain ⟨rfl, rfl⟩ := hio
        have := hE.ev x; rw [hl] at this
        obtain ⟨p, hv, _⟩ := this.ms_inv
        rw [hv]; exact quiet (.lit _ rfl)
      · simp at hio
    · rename_i a n c hl
      simp at hio; obtain ⟨rfl, rfl⟩ := hio
      have := hE.ev x; rw [hl] at this
      rw [this.lit_inv.1]; exact quiet (.lit _ rfl)
    · simp at hio
  case minmax mx x xs =>
    simp only [Option.map_eq_some_iff, Prod.mk.injEq] at hio
    obtain ⟨d', h1, rfl, rfl⟩ := hio
    obtain ⟨v, h2, h3⟩ := vmm_rel (hE.ev x) (hE.evs xs) h1
    rw [h2]; exact quiet h3
  case append esz bytes s x => exact vappend_rel A (hE.ev s) (hE.ev x) hio
  case copy esz d x => exact vcopy_rel A (hE.ev d) (hE.ev x) hio
  case clear zs x => exact vclear_rel A (hE.ev x) hio
  case idxS x i =>
    split at hio
    · rename_i s k j hl hi
      have r1 := hE.ev x; rw [hl] at r1
      have r2 := hE.ev i; rw [hi] at r2
      rw [r1.lit_inv.1, r2.int_inv]
      split at hio
      · rename_i hc
        simp only [Option.map_eq_some_iff, Prod.mk.injEq] at hio
        obtain ⟨b, h1, rfl, rfl⟩ := hio
        simp only
        rw [if_pos hc, h1]
        exact quiet (.lit _ rfl)
      · simp at hio
    · simp at hio
end Go.Proofs.Cp
