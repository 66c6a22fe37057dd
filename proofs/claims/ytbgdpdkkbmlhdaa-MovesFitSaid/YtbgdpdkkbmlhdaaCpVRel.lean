/- The second machine and the first: how their values are related. No program in sight. -/
import Derived.Test.YtbgdpdkkbmlhdaaCpV
set_option linter.unusedSimpArgs false
set_option linter.unusedVariables false
namespace Go.Proofs.Cp
open Go

/-- Where the written blocks lie, and which blocks nobody writes. -/
structure Cx where
  n : Nat
  j : Nat → Nat
  ver : Nat → Nat
  e : Nat → Nat
  st : Nat → Prop
def Stb (S : Cx) (h : Heap) (b : Nat) : Prop := S.st b ∨ ∃ e xs, h[b]? = some (.cells true e xs)
def scal : Value → Bool
  | .bool _ => true
  | .int _ _ => true
  | .string _ => true
  | .pointer none => true
  | .slice none l c => l == 0 && c == 0
  | .map none => true
  | .nilFunc => true
  | _ => false

inductive DR (S : Cx) (h : Heap) : Value → DV → Prop
  | bad (v : Value) : DR S h v .bad
  | lit (v : Value) (hs : scal v = true) : DR S h v (.lit v)
  | agg (cs : Array Value) (l : List DV) (hl : cs.toList.length = l.length) (hr : ∀ (i : Nat) (v : Value) (d : DV), cs.toList[i]? = some v → l[i]? = some d → DR S h v d) : DR S h (.agg cs) (.agg l)
  | tup (cs : Array Value) (l : List DV) (hl : cs.toList.length = l.length) (hr : ∀ (i : Nat) (v : Value) (d : DV), cs.toList[i]? = some v → l[i]? = some d → DR S h v d) : DR S h (.tuple cs) (.tup l)
  | fn (f : Nat) (cs : Array Value) (l : List DV) (hl : cs.toList.length = l.length) (hr : ∀ (i : Nat) (v : Value) (d : DV), cs.toList[i]? = some v → l[i]? = some d → DR S h v d) :
      DR S h (.func (.func f) #[] cs) (.fn f l)
  | slnil : DR S h (.slice none 0 0) (.sl [])
  | sl0 (a : Addr) : DR S h (.slice (some a) 0 0) (.sl [])
  | sl (L : List (List DV)) (b o e c : Nat) (hst : Stb S h b) (hc : L.length ≤ c) (hb : ∃ ro xs, h[b]? = some (.cells ro e xs) ∧ o + L.length * e ≤ xs.length) (hu : ∀ el, el ∈ L → el.length = e ∧ closedL el = true)
      (hr : ∀ (i : Nat) (el : List DV) (k : Nat) (d : DV) (v : Value), L[i]? = some el → el[k]? = some d → ld1 h b (o + (i * e + k)) = some v → DR S h v d) :
      DR S h (.slice (some ⟨b, o, none⟩) L.length c) (.sl L)
  | rp (l : List DV) (b o : Nat) (hst : Stb S h b) (hcl : closedL l = true) (hb : ∃ ro e xs, h[b]? = some (.cells ro e xs) ∧ o + l.length ≤ xs.length)
      (hr : ∀ (k : Nat) (d : DV) (v : Value), l[k]? = some d → ld1 h b (o + k) = some v → DR S h v d) : DR S h (.pointer (some ⟨b, o, none⟩)) (.rp l)
  | mp (b ver i k : Nat) (a : Addr) (hb : b < S.n) (hle : ver ≤ S.ver b) (ha : ver = S.ver b → a = ⟨S.j b, i * S.e b + k, none⟩) : DR S h (.pointer (some a)) (.mp b ver i k)
  | ms (b ver i l c : Nat) (a : Addr) (hb : b < S.n) (hle : ver ≤ S.ver b) (ha : ver = S.ver b → a = ⟨S.j b, i * S.e b, none⟩) : DR S h (.slice (some a) l c) (.ms b ver i l c)

def DRs (S : Cx) (h : Heap) (vs : List Value) (ds : List DV) : Prop := vs.length = ds.length ∧ ∀ (i : Nat) (v : Value) (d : DV), vs[i]? = some v → ds[i]? = some d → DR S h v d
theorem DRs.nil {S : Cx} {h : Heap} : DRs S h [] [] := ⟨rfl, fun i v d h => by simp at h⟩
theorem DRs.cons {S : Cx} {h : Heap} {v : Value} {d : DV} {vs : List Value} {ds : List DV} (a : DR S h v d) (b : DRs S h vs ds) : DRs S h (v :: vs) (d :: ds) :=
  ⟨by simp [b.1], fun i x y h1 h2 => by
    cases i with
    | zero => simp at h1 h2; subst h1; subst h2; exact a
    | succ i => simp at h1 h2; exact b.2 i x y h1 h2⟩
theorem DRs.head {S : Cx} {h : Heap} {v : Value} {d : DV} {vs : List Value} {ds : List DV} (a : DRs S h (v :: vs) (d :: ds)) : DR S h v d := a.2 0 v d rfl rfl
theorem DRs.tail {S : Cx} {h : Heap} {v : Value} {d : DV} {vs : List Value} {ds : List DV} (a : DRs S h (v :: vs) (d :: ds)) : DRs S h vs ds :=
  ⟨by have := a.1; simpa using this, fun i x y h1 h2 => a.2 (i + 1) x y (by simpa using h1) (by simpa using h2)⟩
theorem DRs.append {S : Cx} {h : Heap} {vs ws : List Value} {ds es : List DV} (a : DRs S h vs ds) (b : DRs S h ws es) : DRs S h (vs ++ ws) (ds ++ es) := by
  refine ⟨by simp [a.1, b.1], fun i x y h1 h2 => ?_⟩
  have hl := a.1
  by_cases hi : i < vs.length
  · rw [List.getElem?_append_left hi] at h1
    rw [List.getElem?_append_left (by omega)] at h2
    exact a.2 i x y h1 h2
  · rw [List.getElem?_append_right (by omega)] at h1
    rw [List.getElem?_append_right (by omega)] at h2
    exact b.2 _ x y h1 (by rw [hl]; exact h2)
theorem DRs.take {S : Cx} {h : Heap} {vs : List Value} {ds : List DV} (a : DRs S h vs ds) (n : Nat) : DRs S h (vs.take n) (ds.take n) :=
  ⟨by simp [a.1], fun i x y h1 h2 => by
    rw [List.getElem?_take] at h1 h2
    split at h1
    · rename_i hi; rw [if_pos hi] at h2; exact a.2 i x y h1 h2
    · simp at h1⟩
theorem DRs.drop {S : Cx} {h : Heap} {vs : List Value} {ds : List DV} (a : DRs S h vs ds) (n : Nat) : DRs S h (vs.drop n) (ds.drop n) :=
  ⟨by simp [a.1], fun i x y h1 h2 => by
    rw [List.getElem?_drop] at h1 h2
    exact a.2 _ x y h1 h2⟩
theorem DRs.get {S : Cx} {h : Heap} {vs : List Value} {ds : List DV} (a : DRs S h vs ds) {i : Nat} {d : DV} (hd : ds[i]? = some d) : ∃ v, vs[i]? = some v ∧ DR S h v d := by
  obtain ⟨hi, _⟩ := List.getElem?_eq_some_iff.1 hd
  have : i < vs.length := by rw [a.1]; exact hi
  exact ⟨vs[i], List.getElem?_eq_getElem this, a.2 i _ d (List.getElem?_eq_getElem this) hd⟩

structure CxE (S S' : Cx) : Prop where
  n : S.n ≤ S'.n
  st : ∀ b, S.st b → S'.st b
  ver : ∀ b, b < S.n → S.ver b ≤ S'.ver b
  same : ∀ b, b < S.n → S'.ver b = S.ver b → S'.j b = S.j b ∧ S'.e b = S.e b
theorem CxE.refl (S : Cx) : CxE S S := ⟨Nat.le_refl _, fun _ h => h, fun _ _ => Nat.le_refl _, fun _ _ _ => ⟨rfl, rfl⟩⟩
theorem CxE.trans {A B C : Cx} (h : CxE A B) (k : CxE B C) : CxE A C :=
  ⟨Nat.le_trans h.n k.n, fun b hb => k.st b (h.st b hb), fun b hb => Nat.le_trans (h.ver b hb) (k.ver b (Nat.lt_of_lt_of_le hb h.n)), fun b hb he => by
    have h1 := h.ver b hb
    have h2 := k.ver b (Nat.lt_of_lt_of_le hb h.n)
    have e1 : B.ver b = A.ver b := by omega
    have e2 : C.ver b = B.ver b := by omega
    have a1 := h.same b hb e1
    have a2 := k.same b (Nat.lt_of_lt_of_le hb h.n) e2
    exact ⟨a2.1.trans a1.1, a2.2.trans a1.2⟩⟩
structure Grw (S : Cx) (h h' : Heap) : Prop where
  len : h.length ≤ h'.length
  st : ∀ b, S.st b → h'[b]? = h[b]?
  ro : ∀ (b e : Nat) (xs : List Value), h[b]? = some (Blk.cells true e xs) → h'[b]? = some (Blk.cells true e xs)
  rob : ∀ (b e : Nat) (xs : List Value), b < h.length → h'[b]? = some (Blk.cells true e xs) → h[b]? = some (Blk.cells true e xs)
theorem Grw.refl (S : Cx) (h : Heap) : Grw S h h := ⟨Nat.le_refl _, fun _ _ => rfl, fun _ _ _ h => h, fun _ _ _ _ h => h⟩
theorem Grw.trans {S S' : Cx} {a b c : Heap} (hx : CxE S S') (h : Grw S a b) (k : Grw S' b c) : Grw S a c :=
  ⟨Nat.le_trans h.len k.len, fun x hx' => (k.st x (hx.st x hx')).trans (h.st x hx'), fun x e xs hh => k.ro x e xs (h.ro x e xs hh), fun x e xs hl hh => h.rob x e xs hl (k.rob x e xs (Nat.lt_of_lt_of_le hl h.len) hh)⟩
theorem Grw.stb {S S' : Cx} {h h' : Heap} (hx : CxE S S') (hg : Grw S h h') {b : Nat} (hb : Stb S h b) : Stb S' h' b ∧ h'[b]? = h[b]? := by
  rcases hb with hb | ⟨e, xs, hb⟩
  · exact ⟨.inl (hx.st b hb), hg.st b hb⟩
  · exact ⟨.inr ⟨e, xs, hg.ro b e xs hb⟩, (hg.ro b e xs hb).trans hb.symm⟩
theorem ld1_of {h h' : Heap} {b : Nat} (he : h'[b]? = h[b]?) (o : Nat) : ld1 h' b o = ld1 h b o := by unfold ld1; rw [he]

variable {S S' : Cx} {h h' : Heap} {v : Value} {d : DV}
theorem DR.mono (hx : CxE S S') (hg : Grw S h h') (hr : DR S h v d) : DR S' h' v d := by
  induction hr with
  | bad v => exact .bad v
  | lit v hs => exact .lit v hs
  | agg cs l hl hr ih => exact .agg cs l hl ih
  | tup cs l hl hr ih => exact .tup cs l hl ih
  | fn f cs l hl hr ih => exact .fn f cs l hl ih
  | slnil => exact .slnil
  | sl0 a => exact .sl0 a
  | sl L b o e c hst hc hb hu hr ih =>
    obtain ⟨h1, h2⟩ := hg.stb hx hst
    refine .sl L b o e c h1 hc (by rw [h2]; exact hb) hu (fun i el k d v h3 h4 h5 => ih i el k d v h3 h4 (by rw [← ld1_of h2]; exact h5))
  | rp l b o hst hcl hb hr ih =>
    obtain ⟨h1, h2⟩ := hg.stb hx hst
    exact .rp l b o h1 hcl (by rw [h2]; exact hb) (fun k d v h3 h4 => ih k d v h3 (by rw [← ld1_of h2]; exact h4))
  | mp b ver i k a hb hle ha =>
    refine .mp b ver i k a (Nat.lt_of_lt_of_le hb hx.n) (Nat.le_trans hle (hx.ver b hb)) (fun he => ?_)
    have h1 := hx.ver b hb
    have h2 := hx.same b hb (by omega)
    rw [h2.1, h2.2]; exact ha (by omega)
  | ms b ver i l c a hb hle ha =>
    refine .ms b ver i l c a (Nat.lt_of_lt_of_le hb hx.n) (Nat.le_trans hle (hx.ver b hb)) (fun he => ?_)
    have h1 := hx.ver b hb
    have h2 := hx.same b hb (by omega)
    rw [h2.1, h2.2]; exact ha (by omega)
theorem DRs.mono {vs : List Value} {ds : List DV} (hx : CxE S S') (hg : Grw S h h') (a : DRs S h vs ds) : DRs S' h' vs ds := ⟨a.1, fun i v d h1 h2 => (a.2 i v d h1 h2).mono hx hg⟩

theorem closedL_mem : ∀ {l : List DV} {i : Nat} {d : DV}, closedL l = true → l[i]? = some d → closedD d = true
  | [], i, d, _, h => by simp at h
  | x :: l, 0, d, h, hd => by simp [closedL] at h hd; subst hd; exact h.1
  | x :: l, i + 1, d, h, hd => by simp [closedL] at h hd; exact closedL_mem h.2 hd
theorem closedL_iff {l : List DV} : closedL l = true ↔ ∀ d, d ∈ l → closedD d = true := by
  induction l with
  | nil => simp [closedL]
  | cons x l ih => simp [closedL, ih]
theorem ld1_lt {h : Heap} {b e : Nat} {ro : Bool} {xs : List Value} (hb : h[b]? = some (.cells ro e xs)) {o : Nat} (ho : o < xs.length) : ld1 h b o = some xs[o] := by
  unfold ld1; rw [hb]; exact List.getElem?_eq_getElem ho
theorem idx_lt {i n k e o m : Nat} (hi : i < n) (hk : k < e) (hle : o + n * e ≤ m) : o + (i * e + k) < m := by
  have : (i + 1) * e ≤ n * e := Nat.mul_le_mul_right _ hi
  rw [Nat.add_mul] at this
  omega
/-- A value that can't be written, in another world. -/
theorem DR.tree (hr : DR S h v d) (hcl : closedD d = true) (hst : ∀ b, Stb S h b → Stb S' h' b)
    (hcell : ∀ b ro e xs, Stb S h b → h[b]? = some (.cells ro e xs) → ∃ ro', h'[b]? = some (.cells ro' e xs)) : DR S' h' v d := by
  have hld : ∀ b, Stb S h b → ∀ o v, ld1 h b o = some v → ld1 h' b o = some v := by
    intro b hb o v hv
    unfold ld1 at hv ⊢
    split at hv
    · rename_i ro e xs hx
      obtain ⟨ro', hx'⟩ := hcell b ro e xs hb hx
      rw [hx']; exact hv
    · simp at hv
  have hld' : ∀ b, Stb S h b → ∀ o v0, (∃ v, ld1 h b o = some v) → ld1 h' b o = some v0 → ld1 h b o = some v0 := by
    rintro b hb o v0 ⟨v, hv⟩ hv'
    rw [hld b hb o v hv] at hv'
    rw [hv, hv']
  induction hr with
  | bad v => exact .bad v
  | lit v hs => exact .lit v hs
  | agg cs l hl hr ih => exact .agg cs l hl (fun i v d h1 h2 => ih i v d h1 h2 (closedL_mem (by simpa [closedD] using hcl) h2))
  | tup cs l hl hr ih => exact .tup cs l hl (fun i v d h1 h2 => ih i v d h1 h2 (closedL_mem (by simpa [closedD] using hcl) h2))
  | fn f cs l hl hr ih => exact .fn f cs l hl (fun i v d h1 h2 => ih i v d h1 h2 (closedL_mem (by simpa [closedD] using hcl) h2))
  | slnil => exact .slnil
  | sl0 a => exact .sl0 a
  | sl L b o e c hs hc hb hu hr ih =>
    obtain ⟨ro, xs, hx, hle⟩ := hb
    refine .sl L b o e c (hst b hs) hc ?_ hu (fun i el k d v h3 h4 h5 => ?_)
    · obtain ⟨ro', hx'⟩ := hcell b ro e xs hs hx
      exact ⟨ro', xs, hx', hle⟩
    · have hel := hu el (List.mem_of_getElem? h3)
      have hi : i < L.length := (List.getElem?_eq_some_iff.1 h3).1
      have hk : k < e := by have := (List.getElem?_eq_some_iff.1 h4).1; omega
      exact ih i el k d v h3 h4 (hld' b hs _ v ⟨_, ld1_lt hx (idx_lt hi hk hle)⟩ h5) (closedL_mem hel.2 h4)
  | rp l b o hs hc hb hr ih =>
    obtain ⟨ro, e, xs, hx, hle⟩ := hb
    refine .rp l b o (hst b hs) hc ?_ (fun k d v h3 h4 => ?_)
    · obtain ⟨ro', hx'⟩ := hcell b ro e xs hs hx
      exact ⟨ro', e, xs, hx', hle⟩
    · have hk : k < l.length := (List.getElem?_eq_some_iff.1 h3).1
      exact ih k d v h3 (hld' b hs _ v ⟨_, ld1_lt hx (by omega)⟩ h4) (closedL_mem hc h3)
  | mp b ver i k a hb hle ha => simp [closedD] at hcl
  | ms b ver i l c a hb hle ha => simp [closedD] at hcl

theorem scal_noNew {n : Nat} {v : Value} (hs : scal v = true) : noNew n v = true := by
  cases v with
  | pointer a => cases a <;> simp_all [scal, noNew, lf2, lf]
  | slice a l c => cases a <;> simp_all [scal, noNew, lf2, lf]
  | map a => cases a <;> simp_all [scal, noNew, lf2, lf]
  | _ => simp_all [scal, noNew, lf2, lf]
theorem scal_one {v : Value} (hs : scal v = true) : one v = true := by
  cases v <;> simp_all [scal, one]
theorem DR.lit1 (hr : DR S h v d) (hl : Cp.lit1 d = true) : DR S' h' v d := by
  cases d with
  | lit x => cases hr with | lit v hs => exact .lit v hs
  | _ => simp [Cp.lit1] at hl
theorem DR.lit2 (hr : DR S h v d) (hl : Cp.lit2 d = true) : DR S' h' v d := by
  cases hr with
  | agg cs l hl' hr =>
    simp only [Cp.lit2, List.all_eq_true] at hl
    exact .agg cs l hl' (fun i v d h1 h2 => (hr i v d h1 h2).lit1 (hl d (List.mem_of_getElem? h2)))
  | lit v hs => exact .lit v hs
  | _ => simp [Cp.lit2, Cp.lit1] at hl
theorem DR.lits (hr : DR S h v d) (hl : litD d = true) : DR S' h' v d := by
  cases hr with
  | tup cs l hl' hr =>
    simp only [litD, List.all_eq_true] at hl
    exact .tup cs l hl' (fun i v d h1 h2 => (hr i v d h1 h2).lit2 (hl d (List.mem_of_getElem? h2)))
  | agg cs l hl' hr => exact (DR.agg cs l hl' hr).lit2 hl
  | lit v hs => exact .lit v hs
  | _ => simp [litD, Cp.lit2, Cp.lit1] at hl
theorem scal_lf {n : Nat} {v : Value} (hs : scal v = true) : lf n v = true := by
  cases v with
  | pointer a => cases a <;> simp_all [scal, lf]
  | slice a l c => cases a <;> simp_all [scal, lf]
  | map a => cases a <;> simp_all [scal, lf]
  | _ => simp_all [scal, lf]
theorem DR.lit1_lf (hr : DR S h v d) (hl : Cp.lit1 d = true) : lf 0 v = true := by
  cases d with
  | lit x => cases hr with | lit v hs => exact scal_lf hs
  | _ => simp [Cp.lit1] at hl
theorem DR.lit2_lf (hr : DR S h v d) (hl : Cp.lit2 d = true) : lf2 0 v = true := by
  cases hr with
  | agg cs l hl' hr =>
    simp only [Cp.lit2, lf2, List.all_eq_true] at hl ⊢
    intro x hx
    obtain ⟨i, hi, rfl⟩ := List.mem_iff_getElem.1 hx
    have hi2 : i < l.length := by rw [← hl']; exact hi
    exact (hr i _ _ (List.getElem?_eq_getElem hi) (List.getElem?_eq_getElem hi2)).lit1_lf (hl _ (List.getElem_mem hi2))
  | lit v hs =>
    have := scal_lf (n := 0) hs
    cases v <;> simp_all [lf2, scal]
  | _ => simp [Cp.lit2, Cp.lit1] at hl
theorem DR.lits_noNew (hr : DR S h v d) (hl : litD d = true) : noNew 0 v = true := by
  cases hr with
  | tup cs l hl' hr =>
    simp only [litD, noNew, List.all_eq_true] at hl ⊢
    intro x hx
    obtain ⟨i, hi, rfl⟩ := List.mem_iff_getElem.1 hx
    have hi2 : i < l.length := by rw [← hl']; exact hi
    exact (hr i _ _ (List.getElem?_eq_getElem hi) (List.getElem?_eq_getElem hi2)).lit2_lf (hl _ (List.getElem_mem hi2))
  | agg cs l hl' hr => exact (DR.agg cs l hl' hr).lit2_lf hl
  | lit v hs => exact scal_noNew hs
  | _ => simp [litD, Cp.lit2, Cp.lit1] at hl
/-- A value without addresses. -/
theorem DR.lf0 (hr : DR S h v d) (hv : lf 0 v = true) : DR S' h' v d := by
  cases hr with
  | bad v => exact .bad v
  | lit v hs => exact .lit v hs
  | agg cs l hl' hr => simp [lf] at hv
  | tup cs l hl' hr => simp [lf] at hv
  | fn f cs l hl' hr => simp [lf] at hv
  | slnil => exact .slnil
  | sl0 a => simp [lf] at hv
  | sl L b o e c hs hc hb hu hr => simp [lf] at hv
  | rp l b o hs hc hb hr => simp [lf] at hv
  | mp b ver i k a hb hle ha => simp [lf] at hv
  | ms b ver i l c a hb hle ha => simp [lf] at hv
theorem DR.lf20 (hr : DR S h v d) (hv : lf2 0 v = true) : DR S' h' v d := by
  cases hr with
  | agg cs l hl' hr =>
    refine .agg cs l hl' (fun i v d h1 h2 => (hr i v d h1 h2).lf0 ?_)
    simp only [lf2, List.all_eq_true] at hv
    exact hv v (List.mem_of_getElem? h1)
  | bad v => exact .bad v
  | lit v hs => exact .lit v hs
  | slnil => exact .slnil
  | sl0 a => simp [lf2, lf] at hv
  | tup cs l hl' hr => simp [lf2, lf] at hv
  | fn f cs l hl' hr => simp [lf2, lf] at hv
  | sl L b o e c hs hc hb hu hr => simp [lf2, lf] at hv
  | rp l b o hs hc hb hr => simp [lf2, lf] at hv
  | mp b ver i k a hb hle ha => simp [lf2, lf] at hv
  | ms b ver i l c a hb hle ha => simp [lf2, lf] at hv
theorem DR.noNew0 (hr : DR S h v d) (hv : noNew 0 v = true) : DR S' h' v d := by
  cases hr with
  | tup cs l hl' hr =>
    refine .tup cs l hl' (fun i v d h1 h2 => (hr i v d h1 h2).lf20 ?_)
    simp only [noNew, List.all_eq_true] at hv
    exact hv v (List.mem_of_getElem? h1)
  | agg cs l hl' hr => exact (DR.agg cs l hl' hr).lf20 (by simpa [noNew] using hv)
  | bad v => exact .bad v
  | lit v hs => exact .lit v hs
  | slnil => exact .slnil
  | sl0 a => simp [noNew, lf2, lf] at hv
  | fn f cs l hl' hr => simp [noNew, lf2, lf] at hv
  | sl L b o e c hs hc hb hu hr => simp [noNew, lf2, lf] at hv
  | rp l b o hs hc hb hr => simp [noNew, lf2, lf] at hv
  | mp b ver i k a hb hle ha => simp [noNew, lf2, lf] at hv
  | ms b ver i l c a hb hle ha => simp [noNew, lf2, lf] at hv
theorem DR.one (hr : DR S h v d) (hd : oneD d = true) : one v = true := by
  cases hr <;> simp_all [oneD, Cp.one]
  rename_i hs
  exact scal_one hs

theorem mapO_some {α : Type} {f : α → Option α} : ∀ {l m : List α}, mapO f l = some m → m.length = l.length ∧ ∀ (i : Nat) (x y : α), l[i]? = some x → m[i]? = some y → f x = some y
  | [], m, h => by simp [mapO] at h; subst h; simp
  | x :: l, m, h => by
    simp only [mapO, Option.bind_eq_some_iff, Option.map_eq_some_iff] at h
    obtain ⟨y, h1, m', h2, rfl⟩ := h
    obtain ⟨h3, h4⟩ := mapO_some h2
    refine ⟨by simp [h3], fun i a b ha hb => ?_⟩
    cases i with
    | zero => simp at ha hb; subst ha; subst hb; exact h1
    | succ i => simp at ha hb; exact h4 i a b ha hb
end Go.Proofs.Cp
