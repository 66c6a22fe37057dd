/- The second machine's written blocks, and where they lie in the first. No program in sight. -/
import Derived.Test.YtbgdpdkkbmlhdaaCpVRel
set_option linter.unusedSimpArgs false
set_option linter.unusedVariables false
namespace Go.Proofs.Cp
open Go

def flatOk (e : Nat) (L : List (List DV)) : Prop := (∀ el, el ∈ L → el.length = e) ∨ (e = 0 ∧ ∃ el, L = [el])
theorem take_flat {e : Nat} : ∀ {L : List (List DV)} (i : Nat), (∀ el, el ∈ L → el.length = e) → (L.take i).flatten = L.flatten.take (i * e)
  | [], i, _ => by simp
  | el :: L, 0, _ => by simp
  | el :: L, i + 1, h => by
    have h1 := h el (by simp)
    simp only [List.take_succ_cons, List.flatten_cons, List.take_append, h1]
    rw [take_flat i (fun x hx => h x (by simp [hx]))]
    rw [List.take_of_length_le (l := el) (by rw [h1, Nat.add_mul]; omega)]
    congr 2
    rw [Nat.add_mul]; omega
theorem drop_flat {e : Nat} : ∀ {L : List (List DV)} (i : Nat), (∀ el, el ∈ L → el.length = e) → (L.drop i).flatten = L.flatten.drop (i * e)
  | [], i, _ => by simp
  | el :: L, 0, _ => by simp
  | el :: L, i + 1, h => by
    have h1 := h el (by simp)
    simp only [List.drop_succ_cons, List.flatten_cons, List.drop_append, h1]
    rw [drop_flat i (fun x hx => h x (by simp [hx]))]
    rw [List.drop_of_length_le (l := el) (by rw [h1, Nat.add_mul]; omega)]
    rw [List.nil_append]
    congr 1
    rw [Nat.add_mul]; omega
theorem flat_len {e : Nat} : ∀ {L : List (List DV)}, (∀ el, el ∈ L → el.length = e) → L.flatten.length = L.length * e
  | [], _ => by simp
  | el :: L, h => by
    have h2 := flat_len (L := L) (fun x hx => h x (by simp [hx]))
    have h1 := h el (by simp)
    simp only [List.flatten_cons, List.length_append, List.length_cons, h2, h1, Nat.add_mul]; omega
theorem flat_split {e : Nat} {L : List (List DV)} (hk : flatOk e L) {i : Nat} {el : List DV} (hi : L[i]? = some el) :
    ∃ A C, L.flatten = A ++ el ++ C ∧ A.length = i * e ∧ ∀ el', (L.set i el').flatten = A ++ el' ++ C := by
  obtain ⟨hlt, hget⟩ := List.getElem?_eq_some_iff.1 hi
  refine ⟨(L.take i).flatten, (L.drop (i + 1)).flatten, ?_, ?_, fun el' => ?_⟩
  · conv => lhs; rw [← List.take_append_drop i L]
    rw [List.drop_eq_getElem_cons hlt, hget]
    simp
  · rcases hk with hk | ⟨rfl, x, rfl⟩
    · rw [flat_len (e := e) (fun x hx => hk x (List.mem_of_mem_take hx)), List.length_take]
      congr 1; omega
    · have : i = 0 := by simp at hlt; exact hlt
      subst this; simp
  · rw [List.set_eq_take_append_cons_drop, if_pos hlt]
    simp

structure BR (S : Cx) (h : Heap) (e : Nat) (L : List (List DV)) (xs : List Value) : Prop where
  ok : flatOk e L
  rs : DRs S h xs L.flatten
theorem BR.mono {S S' : Cx} {h h' : Heap} {e : Nat} {L : List (List DV)} {xs : List Value} (hx : CxE S S') (hg : Grw S h h') (b : BR S h e L xs) : BR S' h' e L xs := ⟨b.ok, b.rs.mono hx hg⟩

structure HX (S : Cx) (pr : Nat → Prop) (h : Heap) (H : VHeap) : Prop where
  n : H.length = S.n
  ver : ∀ b, (hg H b).ver = S.ver b
  blk : ∀ b, (hg H b).live = true → (hg H b).e = S.e b ∧ ¬ pr (S.j b) ∧ ∃ xs, h[S.j b]? = some (.cells false (S.e b) xs) ∧ BR S h (S.e b) (hg H b).L xs
  inj : ∀ b c, (hg H b).live = true → (hg H c).live = true → b ≠ c → S.j b ≠ S.j c
theorem HX.lt {S : Cx} {pr : Nat → Prop} {h : Heap} {H : VHeap} (hx : HX S pr h H) {b : Nat} (hb : (hg H b).live = true) : b < S.n := by
  rw [← hx.n]
  rcases Nat.lt_or_ge b H.length with h1 | h1
  · exact h1
  · unfold hg at hb; rw [gt_ge _ _ _ h1] at hb; simp at hb
theorem HX.jlt {S : Cx} {pr : Nat → Prop} {h : Heap} {H : VHeap} (hx : HX S pr h H) {b : Nat} (hb : (hg H b).live = true) : S.j b < h.length := by
  obtain ⟨_, _, xs, h1, _⟩ := hx.blk b hb
  exact (List.getElem?_eq_some_iff.1 h1).1
theorem hg_hs (H : VHeap) (b c : Nat) (x : VB) : hg (hs H b x) c = if b = c then x else hg H c := gt_st _ _ _ _ _
theorem hs_len (H : VHeap) (b : Nat) (x : VB) : (hs H b x).length = max H.length (b + 1) := st_length _ _ _ _

def upd {α : Type} (f : Nat → α) (b : Nat) (v : α) : Nat → α := fun c => if b = c then v else f c
def Cx.push (S : Cx) (id : Nat) (p e : Nat) : Cx := ⟨max S.n (id + 1), upd S.j id p, upd S.ver id (S.ver id + 1), upd S.e id e, S.st⟩
theorem CxE.push (S : Cx) (id p e : Nat) : CxE S (S.push id p e) := by
  refine ⟨Nat.le_max_left _ _, fun _ h => h, fun b hb => ?_, fun b hb he => ?_⟩
  · simp only [Cx.push, upd]; split
    · rename_i h; subst h; omega
    · exact Nat.le_refl _
  · simp only [Cx.push, upd] at he ⊢
    by_cases h : id = b
    · subst h; simp at he
    · rw [if_neg h, if_neg h]; exact ⟨rfl, rfl⟩
theorem Grw.push {S : Cx} {h : Heap} (hst : ∀ b, S.st b → b < h.length) (x : Blk) : Grw S h (h ++ [x]) :=
  ⟨by simp, fun b hb => List.getElem?_append_left (hst b hb), fun b e xs hb => by rw [List.getElem?_append_left (List.getElem?_eq_some_iff.1 hb).1]; exact hb, fun b e xs hl hb => by rw [List.getElem?_append_left hl] at hb; exact hb⟩
theorem HX.push {S : Cx} {pr : Nat → Prop} {h : Heap} {H : VHeap} (hx : HX S pr h H) (hp : ∀ b, pr b → b < h.length) (hst : ∀ b, S.st b → b < h.length) {id e : Nat} {L : List (List DV)} {xs : List Value} (hb : BR S h e L xs) :
    HX (S.push id h.length e) pr (h ++ [.cells false e xs]) (hs H id ⟨(hg H id).ver + 1, e, true, L⟩) := by
  have hce := CxE.push S id h.length e
  have hgr := Grw.push hst (.cells false e xs)
  refine ⟨by rw [hs_len, hx.n]; rfl, fun b => ?_, fun b hl => ?_, fun b c hbl hcl hne => ?_⟩
  · rw [hg_hs]; simp only [Cx.push, upd]
    split
    · simp [hx.ver]
    · exact hx.ver b
  · rw [hg_hs] at hl ⊢
    simp only [Cx.push, upd]
    split
    · rename_i he
      rw [if_pos he] at hl
      refine ⟨rfl, fun hpr => by have := hp _ hpr; omega, xs, by simp, hb.mono hce hgr⟩
    · rename_i he
      rw [if_neg he] at hl
      obtain ⟨h1, h2, ys, h3, h4⟩ := hx.blk b hl
      refine ⟨h1, h2, ys, ?_, h4.mono hce hgr⟩
      rw [List.getElem?_append_left (List.getElem?_eq_some_iff.1 h3).1]; exact h3
  · rw [hg_hs] at hbl hcl
    simp only [Cx.push, upd]
    by_cases h1 : id = b
    · have h2 : id ≠ c := fun e => hne (h1.symm.trans e)
      rw [if_pos h1, if_neg h2]
      rw [if_neg h2] at hcl
      have := hx.jlt hcl; omega
    · rw [if_neg h1] at hbl ⊢
      by_cases h2 : id = c
      · rw [if_pos h2]
        have := hx.jlt hbl; omega
      · rw [if_neg h2] at hcl ⊢
        exact hx.inj b c hbl hcl hne
theorem Grw.set {S : Cx} {h : Heap} {b e : Nat} {xs : List Value} (hb : h[b]? = some (.cells false e xs)) (hst : ¬ S.st b) (x : Blk) (hx : ∀ e xs, x ≠ .cells true e xs) : Grw S h (h.set b x) := by
  refine ⟨by simp, fun c hc => ?_, fun c e' ys hc => ?_, fun c e' ys hl hc => ?_⟩
  · rw [List.getElem?_set_ne]; intro he; subst he; exact hst hc
  · rw [List.getElem?_set_ne]
    · exact hc
    · intro he; subst he; rw [hb] at hc; simp at hc
  · rw [List.getElem?_set] at hc
    split at hc
    · split at hc
      · simp at hc; exact absurd hc (hx _ _)
      · simp at hc
    · exact hc
theorem HX.write {S : Cx} {pr : Nat → Prop} {h : Heap} {H : VHeap} (hx : HX S pr h H) (hsp : ∀ b, S.st b → pr b) {b : Nat} (hl : (hg H b).live = true) {L : List (List DV)} {xs : List Value} (hb : BR S h (S.e b) L xs) :
    HX S pr (h.set (S.j b) (.cells false (S.e b) xs)) (hs H b { hg H b with L := L }) ∧ Grw S h (h.set (S.j b) (.cells false (S.e b) xs)) := by
  obtain ⟨h1, h2, ys, h3, h4⟩ := hx.blk b hl
  have hgr : Grw S h (h.set (S.j b) (.cells false (S.e b) xs)) := .set h3 (fun hs => h2 (hsp _ hs)) _ (by simp)
  refine ⟨⟨by rw [hs_len, hx.n]; have := hx.lt hl; omega, fun c => ?_, fun c hlc => ?_, fun c d hc hd hne => ?_⟩, hgr⟩
  · rw [hg_hs]; split
    · rename_i he; subst he; exact hx.ver b
    · exact hx.ver c
  · rw [hg_hs] at hlc ⊢
    by_cases he : b = c
    · subst he
      rw [if_pos rfl]
      exact ⟨h1, h2, xs, by simp [hx.jlt hl], hb.mono (.refl _) hgr⟩
    · rw [if_neg he] at hlc ⊢
      obtain ⟨k1, k2, zs, k3, k4⟩ := hx.blk c hlc
      exact ⟨k1, k2, zs, by rw [List.getElem?_set_ne (hx.inj b c hl hlc he)]; exact k3, k4.mono (.refl _) hgr⟩
  · rw [hg_hs] at hc hd
    refine hx.inj c d ?_ ?_ hne
    · split at hc
      · rename_i he; subst he; exact hl
      · exact hc
    · split at hd
      · rename_i he; subst he; exact hl
      · exact hd
def Cx.kill (S : Cx) (b : Nat) : Cx := { S with ver := upd S.ver b (S.ver b + 1) }
theorem CxE.kill (S : Cx) (b : Nat) : CxE S (S.kill b) := by
  refine ⟨Nat.le_refl _, fun _ h => h, fun c hc => ?_, fun c hc he => ⟨rfl, rfl⟩⟩
  simp only [Cx.kill, upd]; split
  · rename_i h; subst h; omega
  · exact Nat.le_refl _
theorem HX.kill {S : Cx} {pr : Nat → Prop} {h : Heap} {H : VHeap} (hx : HX S pr h H) (hsp : ∀ b, S.st b → pr b) {b : Nat} (hl : (hg H b).live = true) :
    HX (S.kill b) pr (h.set (S.j b) .dead) (hs H b ⟨(hg H b).ver + 1, 0, false, []⟩) ∧ Grw S h (h.set (S.j b) .dead) := by
  obtain ⟨h1, h2, ys, h3, h4⟩ := hx.blk b hl
  have hgr : Grw S h (h.set (S.j b) .dead) := .set h3 (fun hs => h2 (hsp _ hs)) _ (by simp)
  refine ⟨⟨by rw [hs_len, hx.n]; have := hx.lt hl; simp only [Cx.kill]; omega, fun c => ?_, fun c hlc => ?_, fun c d hc hd hne => ?_⟩, hgr⟩
  · rw [hg_hs]; simp only [Cx.kill, upd]; split
    · simp [hx.ver]
    · exact hx.ver c
  · rw [hg_hs] at hlc ⊢
    by_cases he : b = c
    · subst he
      rw [if_pos rfl] at hlc; simp at hlc
    · rw [if_neg he] at hlc ⊢
      obtain ⟨k1, k2, zs, k3, k4⟩ := hx.blk c hlc
      refine ⟨k1, k2, zs, ?_, k4.mono (CxE.kill S b) hgr⟩
      simp only [Cx.kill]
      rw [List.getElem?_set_ne (hx.inj b c hl hlc he)]; exact k3
  · rw [hg_hs] at hc hd
    refine hx.inj c d ?_ ?_ hne
    · split at hc
      · simp at hc
      · exact hc
    · split at hd
      · simp at hd
      · exact hd

/-! ### Reading -/
variable {S : Cx} {pr : Nat → Prop} {h : Heap} {H : VHeap}
theorem HX.at_ (hx : HX S pr h H) {b ver i : Nat} {el : List DV} (ha : (hg H b).at_ ver i = some el) :
    (hg H b).live = true ∧ ver = S.ver b ∧ (hg H b).L[i]? = some el ∧ ∃ xs, h[S.j b]? = some (.cells false (S.e b) xs) ∧ i * S.e b + el.length ≤ xs.length ∧ DRs S h ((xs.drop (i * S.e b)).take el.length) el := by
  unfold VB.at_ at ha
  split at ha
  · rename_i hc
    obtain ⟨hl, hv⟩ := hc
    obtain ⟨h1, h2, xs, h3, h4⟩ := hx.blk b hl
    obtain ⟨A, C, hf, hA, _⟩ := flat_split h4.ok ha
    have hlen : xs.length = (A ++ el ++ C).length := by rw [← hf]; exact h4.rs.1
    refine ⟨hl, by rw [← hx.ver b]; exact hv.symm, ha, xs, h3, by simp at hlen; omega, ?_⟩
    have := (h4.rs.drop (i * S.e b)).take el.length
    rw [hf, ← hA] at this
    simpa [List.drop_append, List.take_append, hA] using this
  · simp at ha
theorem HX.part (hx : HX S pr h H) {b ver i l : Nat} {X : List (List DV)} (ha : (hg H b).part ver i l = some X) :
    (hg H b).live = true ∧ ver = S.ver b ∧ S.e b ≠ 0 ∧ X.length = l ∧ X = ((hg H b).L.drop i).take l ∧ i + l ≤ (hg H b).L.length ∧ (∀ el, el ∈ X → el.length = S.e b) ∧ ∃ xs, h[S.j b]? = some (.cells false (S.e b) xs) ∧ i * S.e b + l * S.e b ≤ xs.length ∧
      DRs S h ((xs.drop (i * S.e b)).take (l * S.e b)) X.flatten := by
  unfold VB.part at ha
  split at ha
  · rename_i hc
    obtain ⟨hl, hv, he, hle⟩ := hc
    simp at ha; subst ha
    obtain ⟨h1, h2, xs, h3, h4⟩ := hx.blk b hl
    rw [h1] at he
    have hu : ∀ el, el ∈ (hg H b).L → el.length = S.e b := by
      rcases h4.ok with h | ⟨h, _⟩
      · exact h
      · exact absurd h he
    have hlen : xs.length = (hg H b).L.length * S.e b := by rw [h4.rs.1, flat_len hu]
    refine ⟨hl, by rw [← hx.ver b]; exact hv.symm, he, by simp; omega, rfl, hle, fun el hel => hu el (List.mem_of_mem_drop (List.mem_of_mem_take hel)), xs, h3, ?_, ?_⟩
    · rw [hlen, ← Nat.add_mul]; exact Nat.mul_le_mul_right _ hle
    · have := (h4.rs.drop (i * S.e b)).take (l * S.e b)
      rwa [← drop_flat _ hu, ← take_flat l (fun el hel => hu el (List.mem_of_mem_drop hel))] at this
  · simp at ha
theorem ldN_of {h : Heap} {b e : Nat} {ro : Bool} {xs : List Value} (hb : h[b]? = some (.cells ro e xs)) {o n : Nat} (hle : o + n ≤ xs.length) : ldN h b o n = some ((xs.drop o).take n) := by
  unfold ldN; rw [hb]; simp only [hle, ↓reduceIte]
theorem ld1_cells {h : Heap} {b e : Nat} {ro : Bool} {xs : List Value} (hb : h[b]? = some (.cells ro e xs)) (o : Nat) : ld1 h b o = xs[o]? := by
  unfold ld1; rw [hb]
theorem ldN_ld1 {h : Heap} {b o n : Nat} {vs : List Value} (hn : ldN h b o n = some vs) : vs.length = n ∧ ∀ k, k < n → ld1 h b (o + k) = vs[k]? := by
  unfold ldN at hn
  split at hn
  · rename_i ro e xs hb
    split at hn
    · rename_i hle
      simp at hn; subst hn
      refine ⟨by simp; omega, fun k hk => ?_⟩
      rw [ld1_cells hb, List.getElem?_take, if_pos hk, List.getElem?_drop]
    · simp at hn
  · simp at hn
end Go.Proofs.Cp
