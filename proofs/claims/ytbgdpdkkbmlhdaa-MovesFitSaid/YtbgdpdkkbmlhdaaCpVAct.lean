/- An activation of the second machine beside the first. No program in sight. -/
import Derived.Test.YtbgdpdkkbmlhdaaCpVHeap
set_option linter.unusedSimpArgs false
set_option linter.unusedVariables false
namespace Go.Proofs.Cp
open Go

/-- What holds at each moment of an activation: base: the blocks of its caller; S0 h0 H0: where it began; pr: the blocks that nobody writes. -/
structure Act (base : Nat) (S0 : Cx) (h0 : Heap) (H0 : VHeap) (pr : Nat → Prop) (S : Cx) (h : Heap) (H : VHeap) : Prop where
  hx : HX S pr h H
  ce : CxE S0 S
  gr : Grw S0 h0 h
  se : S.st = S0.st
  sp : ∀ b, S0.st b → pr b
  pl : ∀ b, pr b → b < h0.length
  bn : S0.n ≤ base
  on : ∀ b, base ≤ b → (hg H b).live = true → h0.length ≤ S.j b
  ob : ∀ b, b < base → (hg H b).live = true → (hg H0 b).live = true ∧ S.ver b = S0.ver b
  od : ∀ b, b < base → (hg H0 b).live = false → S.ver b = S0.ver b
variable {base : Nat} {S0 : Cx} {h0 : Heap} {H0 : VHeap} {pr : Nat → Prop} {S : Cx} {h : Heap} {H : VHeap}
theorem Act.start (hx : HX S pr h H) (sp : ∀ b, S.st b → pr b) (pl : ∀ b, pr b → b < h.length) (hb : H.length ≤ base) : Act base S h H pr S h H := by
  refine ⟨hx, .refl _, .refl _ _, rfl, sp, pl, by rw [← hx.n]; exact hb, fun b hb' hl => ?_, fun b hb hl => ⟨hl, rfl⟩, fun _ _ _ => rfl⟩
  have := hx.lt hl; rw [← hx.n] at this; omega
theorem Act.spS (A : Act base S0 h0 H0 pr S h H) (b : Nat) (hb : S.st b) : pr b := A.sp b (by rw [← A.se]; exact hb)
theorem Act.plS (A : Act base S0 h0 H0 pr S h H) (b : Nat) (hb : pr b) : b < h.length := Nat.lt_of_lt_of_le (A.pl b hb) A.gr.len
theorem Act.push (A : Act base S0 h0 H0 pr S h H) {id e : Nat} (hid : base ≤ id) {L : List (List DV)} {xs : List Value} (hb : BR S h e L xs) :
    Act base S0 h0 H0 pr (S.push id h.length e) (h ++ [.cells false e xs]) (hs H id ⟨(hg H id).ver + 1, e, true, L⟩) := by
  have hst : ∀ b, S.st b → b < h.length := fun b hb => A.plS b (A.spS b hb)
  refine ⟨A.hx.push A.plS hst hb, A.ce.trans (CxE.push S id _ e), A.gr.trans A.ce (.push hst _), A.se, A.sp, A.pl, A.bn, fun b hb hl => ?_, fun b hb hl => ?_, fun b hb hl => ?_⟩
  · rw [hg_hs] at hl
    simp only [Cx.push, upd]
    split
    · exact A.gr.len
    · rename_i hne; rw [if_neg hne] at hl; exact A.on b hb hl
  · have hne : id ≠ b := by omega
    rw [hg_hs, if_neg hne] at hl
    simp only [Cx.push, upd, if_neg hne]
    exact A.ob b hb hl
  · have hne : id ≠ b := by omega
    simp only [Cx.push, upd, if_neg hne]
    exact A.od b hb hl
theorem Act.write (A : Act base S0 h0 H0 pr S h H) {b : Nat} (hl : (hg H b).live = true) {L : List (List DV)} {xs : List Value} (hb : BR S h (S.e b) L xs) :
    Act base S0 h0 H0 pr S (h.set (S.j b) (.cells false (S.e b) xs)) (hs H b { hg H b with L := L }) ∧ Grw S h (h.set (S.j b) (.cells false (S.e b) xs)) := by
  obtain ⟨h1, h2⟩ := A.hx.write A.spS hl hb
  refine ⟨⟨h1, A.ce, A.gr.trans A.ce h2, A.se, A.sp, A.pl, A.bn, fun c hc hlc => ?_, fun c hc hlc => ?_, A.od⟩, h2⟩
  · rw [hg_hs] at hlc
    refine A.on c hc ?_
    split at hlc
    · rename_i he; subst he; exact hl
    · exact hlc
  · rw [hg_hs] at hlc
    refine A.ob c hc ?_
    split at hlc
    · rename_i he; subst he; exact hl
    · exact hlc
theorem Act.kill (A : Act base S0 h0 H0 pr S h H) {b : Nat} (hl : (hg H b).live = true) :
    Act base S0 h0 H0 pr (S.kill b) (h.set (S.j b) .dead) (hs H b ⟨(hg H b).ver + 1, 0, false, []⟩) ∧ Grw S h (h.set (S.j b) .dead) := by
  obtain ⟨h1, h2⟩ := A.hx.kill A.spS hl
  refine ⟨⟨h1, A.ce.trans (.kill S b), A.gr.trans A.ce h2, A.se, A.sp, A.pl, A.bn, fun c hc hlc => ?_, fun c hc hlc => ?_, fun c hc hlc => ?_⟩, h2⟩
  · rw [hg_hs] at hlc
    split at hlc
    · simp at hlc
    · exact A.on c hc hlc
  · rw [hg_hs] at hlc
    split at hlc
    · simp at hlc
    · rename_i hne
      simp only [Cx.kill, upd, if_neg hne]
      exact A.ob c hc hlc
  · have hne : b ≠ c := by
      intro e; subst e
      rw [(A.ob b hc hl).1] at hlc; cases hlc
    simp only [Cx.kill, upd, if_neg hne]
    exact A.od c hc hlc

def hof2 (h : Heap) : Eff → Heap
  | none => h
  | some (h', _) => h'
/-- What an operation of both comes to. -/
structure Out (base : Nat) (S0 : Cx) (h0 : Heap) (H0 : VHeap) (pr : Nat → Prop) (S : Cx) (h : Heap) (v : Value) (ef : Eff) (d : DV) (H' : VHeap) : Prop where
  ex : ∃ S', Act base S0 h0 H0 pr S' (hof2 h ef) H' ∧ CxE S S' ∧ Grw S h (hof2 h ef) ∧ DR S' (hof2 h ef) v d
  w : ∀ h2 w, ef = some (h2, w) → ∀ b, b ∈ w → ¬ pr b
theorem Out.quiet (A : Act base S0 h0 H0 pr S h H) {v : Value} {d : DV} (hd : DR S h v d) : Out base S0 h0 H0 pr S h v none d H :=
  ⟨⟨S, A, .refl _, .refl _ _, hd⟩, fun h2 w he => by simp at he⟩
theorem Out.newP (A : Act base S0 h0 H0 pr S h H) {id e : Nat} (hid : base ≤ id) {L : List (List DV)} {xs : List Value} (hb : BR S h e L xs) :
    Out base S0 h0 H0 pr S h (.pointer (some ⟨h.length, 0, none⟩)) (some (h ++ [.cells false e xs], [])) (.mp id ((hg H id).ver + 1) 0 0) (hs H id ⟨(hg H id).ver + 1, e, true, L⟩) := by
  refine ⟨⟨_, A.push hid hb, .push S id _ e, .push (fun b hb => A.plS b (A.spS b hb)) _, ?_⟩, fun h2 w he => by simp at he; obtain ⟨_, rfl⟩ := he; simp⟩
  refine .mp _ _ _ _ _ ?_ ?_ (fun _ => ?_)
  · simp [Cx.push]; omega
  · simp [Cx.push, upd, A.hx.ver]
  · simp [Cx.push, upd]
theorem Out.newS (A : Act base S0 h0 H0 pr S h H) {id e : Nat} (hid : base ≤ id) {L : List (List DV)} {xs : List Value} (hb : BR S h e L xs) (l c : Nat) :
    Out base S0 h0 H0 pr S h (.slice (some ⟨h.length, 0, none⟩) l c) (some (h ++ [.cells false e xs], [])) (.ms id ((hg H id).ver + 1) 0 l c) (hs H id ⟨(hg H id).ver + 1, e, true, L⟩) := by
  refine ⟨⟨_, A.push hid hb, .push S id _ e, .push (fun b hb => A.plS b (A.spS b hb)) _, ?_⟩, fun h2 w he => by simp at he; obtain ⟨_, rfl⟩ := he; simp⟩
  refine .ms _ _ _ _ _ _ ?_ ?_ (fun _ => ?_)
  · simp [Cx.push]; omega
  · simp [Cx.push, upd, A.hx.ver]
  · simp [Cx.push, upd]
theorem Out.write (A : Act base S0 h0 H0 pr S h H) {b : Nat} (hl : (hg H b).live = true) {L : List (List DV)} {xs : List Value} (hb : BR S h (S.e b) L xs) {v : Value} {d : DV} (hd : DR S h v d) :
    Out base S0 h0 H0 pr S h v (some (h.set (S.j b) (.cells false (S.e b) xs), [S.j b])) d (hs H b { hg H b with L := L }) := by
  obtain ⟨h1, h2⟩ := A.write hl hb
  refine ⟨⟨S, h1, .refl _, h2, hd.mono (.refl _) h2⟩, fun h3 w he => ?_⟩
  simp at he; obtain ⟨_, rfl⟩ := he
  intro c hc; simp at hc; subst hc
  exact (A.hx.blk b hl).2.1

/-! ### What a value is -/
theorem DR.lit_inv {v x : Value} (hr : DR S h v (.lit x)) : v = x ∧ scal x = true := by cases hr with | lit v hs => exact ⟨rfl, hs⟩
theorem DR.int_inv {v : Value} {k : IntKind} {n : Int} (hr : DR S h v (.lit (.int k n))) : v = .int k n := hr.lit_inv.1
theorem DR.bool_inv {v : Value} {b : Bool} (hr : DR S h v (.lit (.bool b))) : v = .bool b := hr.lit_inv.1
theorem DR.agg_inv {v : Value} {l : List DV} (hr : DR S h v (.agg l)) : ∃ cs, v = .agg cs ∧ DRs S h cs.toList l := by cases hr with | agg cs l hl hr => exact ⟨cs, rfl, hl, hr⟩
theorem DR.tup_inv {v : Value} {l : List DV} (hr : DR S h v (.tup l)) : ∃ cs, v = .tuple cs ∧ DRs S h cs.toList l := by cases hr with | tup cs l hl hr => exact ⟨cs, rfl, hl, hr⟩
theorem DR.fn_inv {v : Value} {f : Nat} {l : List DV} (hr : DR S h v (.fn f l)) : ∃ cs, v = .func (.func f) #[] cs ∧ DRs S h cs.toList l := by cases hr with | fn f cs l hl hr => exact ⟨cs, rfl, hl, hr⟩
theorem DR.rp_inv {v : Value} {l : List DV} (hr : DR S h v (.rp l)) : ∃ b o, v = .pointer (some ⟨b, o, none⟩) ∧ Stb S h b ∧ closedL l = true ∧ ∃ vs, ldN h b o l.length = some vs ∧ DRs S h vs l ∧ ∃ ro e xs, h[b]? = some (.cells ro e xs) ∧ o + l.length ≤ xs.length := by
  cases hr with
  | rp l b o hst hcl hb hr =>
    obtain ⟨ro, e, xs, hx, hle⟩ := hb
    have hn := ldN_of hx hle
    refine ⟨b, o, rfl, hst, hcl, _, hn, ⟨by simp; omega, fun i v d h1 h2 => hr i d v h2 ?_⟩, ro, e, xs, hx, hle⟩
    rw [← h1]
    exact (ldN_ld1 hn).2 i (List.getElem?_eq_some_iff.1 h2).1
theorem DR.mp_inv {v : Value} {b ver i k : Nat} (hr : DR S h v (.mp b ver i k)) : ∃ a, v = .pointer (some a) ∧ b < S.n ∧ ver ≤ S.ver b ∧ (ver = S.ver b → a = ⟨S.j b, i * S.e b + k, none⟩) := by
  cases hr with | mp b ver i k a hb hle ha => exact ⟨a, rfl, hb, hle, ha⟩
theorem DR.ms_inv {v : Value} {b ver i l c : Nat} (hr : DR S h v (.ms b ver i l c)) : ∃ a, v = .slice (some a) l c ∧ b < S.n ∧ ver ≤ S.ver b ∧ (ver = S.ver b → a = ⟨S.j b, i * S.e b, none⟩) := by
  cases hr with | ms b ver i l c a hb hle ha => exact ⟨a, rfl, hb, hle, ha⟩
theorem sl_len {L : List (List DV)} {e : Nat} (hu : ∀ el, el ∈ L → el.length = e) : L.flatten.length = L.length * e := flat_len hu
theorem flat_at {e : Nat} : ∀ {L : List (List DV)} (_ : ∀ el, el ∈ L → el.length = e) {i : Nat} {d : DV}, L.flatten[i]? = some d → ∃ q el k, L[q]? = some el ∧ el[k]? = some d ∧ i = q * e + k
  | [], _, i, d, h => by simp at h
  | el :: L, hu, i, d, h => by
    have h1 := hu el (by simp)
    simp only [List.flatten_cons] at h
    by_cases hi : i < el.length
    · rw [List.getElem?_append_left hi] at h
      exact ⟨0, el, i, rfl, h, by omega⟩
    · rw [List.getElem?_append_right (by omega)] at h
      obtain ⟨q, el', k, h2, h3, h4⟩ := flat_at (fun x hx => hu x (by simp [hx])) h
      exact ⟨q + 1, el', k, by simpa using h2, h3, by rw [Nat.add_mul]; omega⟩
theorem DR.sl_inv {v : Value} {L : List (List DV)} (hr : DR S h v (.sl L)) : ((∃ a, v = .slice a 0 0) ∧ L = []) ∨ ∃ b o e c, v = .slice (some ⟨b, o, none⟩) L.length c ∧ L.length ≤ c ∧ Stb S h b ∧ (∀ el, el ∈ L → el.length = e ∧ closedL el = true) ∧
    ∃ ro xs, h[b]? = some (.cells ro e xs) ∧ o + L.length * e ≤ xs.length ∧ DRs S h ((xs.drop o).take (L.length * e)) L.flatten := by
  cases hr with
  | slnil => exact .inl ⟨⟨none, rfl⟩, rfl⟩
  | sl0 a => exact .inl ⟨⟨some a, rfl⟩, rfl⟩
  | sl L b o e c hst hc hb hu hr =>
    obtain ⟨ro, xs, hx, hle⟩ := hb
    refine .inr ⟨b, o, e, c, rfl, hc, hst, hu, ro, xs, hx, hle, ?_, fun i v d h1 h2 => ?_⟩
    · rw [flat_len (fun el h => (hu el h).1)]; simp; omega
    · obtain ⟨q, el, k, h3, h4, rfl⟩ := flat_at (fun el h => (hu el h).1) h2
      refine hr q el k d v h3 h4 ?_
      rw [ld1_cells hx]
      rw [List.getElem?_take] at h1
      split at h1
      · rwa [List.getElem?_drop] at h1
      · simp at h1
theorem DR.sl_mk {b o e c : Nat} {L : List (List DV)} {ro : Bool} {xs : List Value} (hst : Stb S h b) (hc : L.length ≤ c) (hu : ∀ el, el ∈ L → el.length = e ∧ closedL el = true) (hx : h[b]? = some (.cells ro e xs)) (hle : o + L.length * e ≤ xs.length)
    (hd : DRs S h ((xs.drop o).take (L.length * e)) L.flatten) : DR S h (.slice (some ⟨b, o, none⟩) L.length c) (.sl L) := by
  refine .sl L b o e c hst hc ⟨ro, xs, hx, hle⟩ hu (fun i el k d v h3 h4 h5 => ?_)
  have hi : i < L.length := (List.getElem?_eq_some_iff.1 h3).1
  have hk : k < e := by have := (List.getElem?_eq_some_iff.1 h4).1; have := (hu el (List.mem_of_getElem? h3)).1; omega
  obtain ⟨A, C, hf, hA, _⟩ := flat_split (e := e) (.inl fun el hel => (hu el hel).1) h3
  have hlt := idx_lt (o := 0) (m := L.length * e) hi hk (by omega)
  refine hd.2 (i * e + k) v d ?_ ?_
  · rw [List.getElem?_take, if_pos (by omega), List.getElem?_drop, ← ld1_cells hx]; exact h5
  · rw [hf, List.append_assoc, List.getElem?_append_right (by omega)]
    rw [hA, Nat.add_sub_cancel_left, List.getElem?_append_left (by have := (List.getElem?_eq_some_iff.1 h4).1; omega)]
    exact h4
theorem DR.rp_mk {b o e : Nat} {l : List DV} {ro : Bool} {xs : List Value} (hst : Stb S h b) (hcl : closedL l = true) (hx : h[b]? = some (.cells ro e xs)) (hle : o + l.length ≤ xs.length)
    (hd : DRs S h ((xs.drop o).take l.length) l) : DR S h (.pointer (some ⟨b, o, none⟩)) (.rp l) := by
  refine .rp l b o hst hcl ⟨ro, e, xs, hx, hle⟩ (fun k d v h3 h4 => hd.2 k v d ?_ h3)
  rw [List.getElem?_take, if_pos (List.getElem?_eq_some_iff.1 h3).1, List.getElem?_drop, ← ld1_cells hx]; exact h4

theorem dvLeaf_rel (v : Value) : DR S h v (dvLeaf v) := by
  unfold dvLeaf
  split <;> first | exact .bad _ | exact .lit _ rfl
theorem dvOf_rel (v : Value) : DR S h v (dvOf v) := by
  unfold dvOf
  split
  · rename_i cs
    refine .agg cs _ (by simp) (fun i v d h1 h2 => ?_)
    simp only [List.getElem?_map, Option.map_eq_some_iff] at h2
    obtain ⟨x, h3, rfl⟩ := h2
    rw [h1] at h3; simp at h3; subst h3
    exact dvLeaf_rel _
  · exact dvLeaf_rel _
theorem dvLeafs_rel (zs : List Value) : DRs S h zs (zs.map dvLeaf) := by
  refine ⟨by simp, fun i v d h1 h2 => ?_⟩
  simp only [List.getElem?_map, Option.map_eq_some_iff] at h2
  obtain ⟨x, h3, rfl⟩ := h2
  rw [h1] at h3; simp at h3; subst h3
  exact dvLeaf_rel _
def ERel (S : Cx) (h : Heap) (e : Env) (E : List DV) : Prop := ∀ t, DR S h (get e t) (gt .bad E t)
theorem ERel.ev {e : Env} {E : List DV} (hE : ERel S h e E) (x : Opd) : DR S h (ev e x) (vev E x) := by
  cases x with
  | t n => exact hE n
  | c v => exact dvOf_rel v
  | f n => exact .fn n #[] [] rfl (fun i v d h => by simp at h)
theorem ERel.evs {e : Env} {E : List DV} (hE : ERel S h e E) (xs : List Opd) : DRs S h (xs.map (Cp.ev e)) (xs.map (vev E)) := by
  induction xs with
  | nil => exact .nil
  | cons x xs ih => exact .cons (hE.ev x) ih
theorem ERel.set {e : Env} {E : List DV} (hE : ERel S h e E) (dst : Option Nat) {v : Value} {d : DV} (hd : DR S h v d) : ERel S h (setO e dst v) (vset E dst d) := by
  cases dst with
  | none => exact hE
  | some t =>
    intro u
    simp only [setO, vset]
    by_cases hu : t = u
    · subst hu; rw [get_set_same, gt_st_same]; exact hd
    · rw [get_set_ne _ _ hu, gt_st_ne _ _ _ hu]; exact hE u
theorem ERel.mono {S' : Cx} {h' : Heap} {e : Env} {E : List DV} (hx : CxE S S') (hg : Grw S h h') (hE : ERel S h e E) : ERel S' h' e E := fun t => (hE t).mono hx hg
theorem cells_rel {v : Value} {d : DV} (hr : DR S h v d) (hd : (cellsD d).all oneD = true) : DRs S h v.cells.toList (cellsD d) ∧ v.cells.toList.all one = true := by
  have key : ∀ v d, DR S h v d → cellsD d = [d] → oneD d = true → v.cells.toList = [v] → DRs S h v.cells.toList (cellsD d) ∧ v.cells.toList.all one = true := by
    intro v d hr h1 h2 h3
    rw [h1, h3]
    exact ⟨.cons hr .nil, by simp [hr.one h2]⟩
  cases hr with
  | agg cs l hl hr =>
    refine ⟨⟨hl, hr⟩, ?_⟩
    simp only [cellsD, Value.cells, List.all_eq_true] at hd ⊢
    intro x hx
    obtain ⟨i, hi, rfl⟩ := List.mem_iff_getElem.1 hx
    have hil : i < l.length := by rw [← hl]; exact hi
    exact (hr i _ _ (List.getElem?_eq_getElem hi) (List.getElem?_eq_getElem hil)).one (hd _ (List.getElem_mem hil))
  | lit v hs => refine key _ _ (.lit v hs) rfl rfl ?_; cases v <;> simp_all [scal, Value.cells]
  | bad v => simp [cellsD, oneD] at hd
  | tup cs l hl hr => simp [cellsD, oneD] at hd
  | fn f cs l hl hr => exact key _ _ (.fn f cs l hl hr) rfl rfl rfl
  | slnil => exact key _ _ .slnil rfl rfl rfl
  | sl0 a => exact key _ _ (.sl0 a) rfl rfl rfl
  | sl L b o e c hst hc hb hu hr => exact key _ _ (.sl L b o e c hst hc hb hu hr) rfl rfl rfl
  | rp l b o hst hcl hb hr => exact key _ _ (.rp l b o hst hcl hb hr) rfl rfl rfl
  | mp b ver i k a hb hle ha => exact key _ _ (.mp b ver i k a hb hle ha) rfl rfl rfl
  | ms b ver i l c a hb hle ha => exact key _ _ (.ms b ver i l c a hb hle ha) rfl rfl rfl
end Go.Proofs.Cp
