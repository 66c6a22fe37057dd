/- Arguments of any shape: structs and slices of structs. No program in sight. -/
import Derived.Test.YtbgdpdkkbmlhdaaCpRow
import Derived.Deep.Slices
set_option linter.unusedSimpArgs false
set_option linter.unusedVariables false
namespace Go.Proofs.Cp
open Go Go.RowKit
inductive CK where
  | i
  | b
inductive PK where
  | c (k : CK)
  | s (es : List CK)
/-- A number or a truth value, as the model and the machine have it. -/
inductive Sca : CK → Value → DV → Prop
  | int (n : Int) (h : (Lit.int .i64 n).wf = true) : Sca .i (.int .i64 n) (.lit (.int .i64 n))
  | bool (x : Bool) : Sca .b (.bool x) (.lit (.bool x))
inductive Scas : List CK → List Value → List DV → Prop
  | nil : Scas [] [] []
  | cons {k : CK} {ks : List CK} {v : Value} {vs : List Value} {d : DV} {ds : List DV} (h : Sca k v d) (hs : Scas ks vs ds) : Scas (k :: ks) (v :: vs) (d :: ds)
/-- A cell of an argument: what the machine sees of it. -/
inductive Cel (W : World) : PK → Value → DV → Prop
  | sca {k : CK} {v : Value} {d : DV} (h : Sca k v d) : Cel W (.c k) v d
  | nil (es : List CK) : Cel W (.s es) (.slice none 0 0) (.sl [])
  | sl (es : List CK) (a : Addr) (len cap : Nat) (L : List (List DV)) (Vs : List (List Value)) (h1 : len ≤ cap) (h2 : L.length = len) (h3 : Vs.length = len)
      (h4 : ∀ (i : Nat) (vs : List Value) (ds : List DV), Vs[i]? = some vs → L[i]? = some ds → Scas es vs ds) (h5 : ∀ (i : Nat) (vs : List Value), Vs[i]? = some vs → ∀ (j : Nat) (v : Value), vs[j]? = some v → W.cell? (a.add (i * es.length + j)) = some v) : Cel W (.s es) (.slice (some a) len cap) (.sl L)
inductive Cels (W : World) : List PK → List Value → List DV → Prop
  | nil : Cels W [] [] []
  | cons {k : PK} {ks : List PK} {v : Value} {vs : List Value} {d : DV} {ds : List DV} (h : Cel W k v d) (hs : Cels W ks vs ds) : Cels W (k :: ks) (v :: vs) (d :: ds)
theorem Scas.len {es : List CK} {vs : List Value} {ds : List DV} (h : Scas es vs ds) : vs.length = es.length ∧ ds.length = es.length := by
  induction h with
  | nil => exact ⟨rfl, rfl⟩
  | cons _ _ ih => simp [ih.1, ih.2]
theorem Cels.append {W : World} {a b : List PK} {va vb : List Value} {da db : List DV} (h : Cels W a va da) (h' : Cels W b vb db) : Cels W (a ++ b) (va ++ vb) (da ++ db) := by
  induction h with
  | nil => exact h'
  | cons h _ ih => exact .cons h ih
theorem Cels.len {W : World} {es : List PK} {vs : List Value} {ds : List DV} (h : Cels W es vs ds) : vs.length = es.length ∧ ds.length = es.length := by
  induction h with
  | nil => exact ⟨rfl, rfl⟩
  | cons _ _ ih => simp [ih.1, ih.2]

/-! ### Down: what a type's cells are -/
def pkC : PK → Option CK
  | .c k => some k
  | .s _ => none
def pkCs : List PK → Option (List CK)
  | [] => some []
  | k :: ks => (pkC k).bind fun a => (pkCs ks).map fun l => a :: l
def shapeFs (P : Program) (rec : TypeId → Option (List PK)) : List Field → Nat → Option (List PK)
  | [], _ => some []
  | f :: fs, o => if f.offset = o then (rec f.type).bind fun a => if a.length = P.cellsOf f.type then (shapeFs P rec fs (o + a.length)).map (a ++ ·) else none else none
def shapeOf (P : Program) : Nat → TypeId → Option (List PK)
  | 0, _ => none
  | n + 1, t => match P.underlying t with
    | some .bool => some [.c .b]
    | some (.int .i64) => some [.c .i]
    | some (.slice e) => (shapeOf P n e).bind fun l => (pkCs l).bind fun es => if P.cellsOf e = es.length then some [.s es] else none
    | some (.struct fs) => (shapeFs P (shapeOf P n) fs.toList 0).bind fun l => if l.length = P.cellsOf t then some l else none
    | _ => none
theorem Cels.scas {W : World} {l : List PK} {vs : List Value} {ds : List DV} (h : Cels W l vs ds) : ∀ {es : List CK}, pkCs l = some es → Scas es vs ds := by
  induction h with
  | nil => intro es he; simp [pkCs] at he; subst he; exact .nil
  | cons h _ ih =>
    intro es he
    simp only [pkCs, Option.bind_eq_some_iff, Option.map_eq_some_iff] at he
    obtain ⟨a, h1, l, h2, rfl⟩ := he
    cases h with
    | sca h => simp [pkC] at h1; subst h1; exact .cons h (ih h2)
    | nil _ => simp [pkC] at h1
    | sl => simp [pkC] at h1
section
variable {H : Type} {enc : TypeId × Value → H} {P : Program} {W : World} {base : Nat} {spare : Nat → Bool} {held : Bool}
theorem opened_fs (rec : TypeId → Option (List PK)) {cs : List Value}
    (hrec : ∀ (t : TypeId) (pks : List PK), rec t = some pks → ∀ (fuel : Nat) (cs : List Value) (x : DataW H × List MemPlace), DataW.trod enc P W base spare held fuel t cs = some x → ∃ ds, Cels W pks cs ds) :
    ∀ (fs : List Field) (o : Nat) (pks : List PK), shapeFs P rec fs o = some pks → o + pks.length ≤ cs.length → (∀ f, f ∈ fs → ∃ fuel x, DataW.trod enc P W base spare held fuel f.type ((cs.drop f.offset).take (P.cellsOf f.type)) = some x) →
      ∃ ds, Cels W pks ((cs.drop o).take pks.length) ds
  | [], o, pks, h, _, _ => by
    simp [shapeFs] at h; subst h
    exact ⟨[], by simp; exact .nil⟩
  | f :: fs, o, pks, h, hle, ht => by
    simp only [shapeFs] at h
    split at h
    · rename_i ho
      simp only [Option.bind_eq_some_iff] at h
      obtain ⟨a, h1, h2⟩ := h
      split at h2
      · rename_i ha
        simp only [Option.map_eq_some_iff] at h2
        obtain ⟨b, h3, rfl⟩ := h2
        obtain ⟨fuel, x, hx⟩ := ht f (by simp)
        obtain ⟨da, hda⟩ := hrec _ _ h1 _ _ _ hx
        rw [List.length_append] at hle
        obtain ⟨db, hdb⟩ := opened_fs rec hrec fs (o + a.length) b h3 (by omega) (fun g hg => ht g (by simp [hg]))
        refine ⟨da ++ db, ?_⟩
        have := hda.append hdb
        rw [ho, ← ha] at this
        rw [List.length_append, List.take_add, List.drop_drop]
        exact this
      · simp at h2
    · simp at h
theorem opened : ∀ (n : Nat) (t : TypeId) (pks : List PK), shapeOf P n t = some pks → ∀ (fuel : Nat) (cs : List Value) (x : DataW H × List MemPlace), DataW.trod enc P W base spare held fuel t cs = some x → ∃ ds, Cels W pks cs ds
  | 0, t, pks, h, fuel, cs, x, hx => by simp [shapeOf] at h
  | n + 1, t, pks, h, fuel, cs, x, hx => by
    have IH := opened n
    simp only [shapeOf] at h
    split at h
    · rename_i hu
      simp at h; subst h
      cases fuel with
      | zero => simp [DataW.trod] at hx
      | succ fuel =>
        unfold DataW.trod at hx
        rw [hu] at hx
        split at hx <;> simp_all
        exact ⟨_, .cons (.sca (.bool _)) .nil⟩
    · rename_i hu
      simp at h; subst h
      cases fuel with
      | zero => simp [DataW.trod] at hx
      | succ fuel =>
        unfold DataW.trod at hx
        rw [hu] at hx
        split at hx <;> simp_all
        rename_i heq
        obtain ⟨⟨_, h2⟩, _⟩ := hx
        subst heq
        exact ⟨_, .cons (.sca (.int _ h2)) .nil⟩
    · rename_i e hu
      simp only [Option.bind_eq_some_iff] at h
      obtain ⟨l, h1, es, h2, h3⟩ := h
      split at h3
      · rename_i hc
        simp at h3; subst h3
        rcases Deep.open_slice hu hx with ⟨rfl, _⟩ | ⟨a, len, cap, m, n2, D, Pl, rfl, hb, hl, hm, hmm, rfl, hel⟩
        · exact ⟨_, .cons (.nil es) .nil⟩
        · have hlm : len ≤ m := by rw [hmm]; split <;> omega
          have key : ∀ i, i < len → ∃ vs : List Value × List DV, Scas es vs.1 vs.2 ∧ ∀ (j : Nat) (v : Value), vs.1[j]? = some v → W.cell? (a.add (i * es.length + j)) = some v := by
            intro i hi
            obtain ⟨cs', c1, c2⟩ := hel i (by omega)
            obtain ⟨ds, hds⟩ := IH e l h1 _ _ _ c2
            refine ⟨(cs', ds), hds.scas h2, fun j v hj => ?_⟩
            obtain ⟨k1, k2, k3⟩ := World.cells?_some c1
            have hjl : j < cs'.length := (List.getElem?_eq_some_iff.1 hj).1
            have := k3 j (by omega)
            rw [Deep.add_add, hc] at this
            rw [this]; exact hj
          obtain ⟨f, hf⟩ := Deep.choose_lt (α := List Value × List DV) key
          refine ⟨_, .cons (.sl es a len cap ((List.range len).map fun i => (f i).2) ((List.range len).map fun i => (f i).1) hl (by simp) (by simp) (fun i vs ds h1 h2 => ?_) (fun i vs h1 j v hj => ?_)) .nil⟩
          · simp only [List.getElem?_map, Option.map_eq_some_iff, List.getElem?_range] at h1 h2
            obtain ⟨i1, e1, rfl⟩ := h1
            obtain ⟨i2, e2, rfl⟩ := h2
            rw [e1] at e2; simp at e2; subst e2
            have := List.mem_range.1 (List.mem_of_getElem? e1)
            exact (hf i1 this).1
          · simp only [List.getElem?_map, Option.map_eq_some_iff] at h1
            obtain ⟨i1, e1, rfl⟩ := h1
            have hlt := List.mem_range.1 (List.mem_of_getElem? e1)
            have : i1 = i := by
              have := (List.getElem?_eq_some_iff.1 e1).2
              simpa using this.symm
            subst this
            exact (hf i1 hlt).2 j v hj
      · simp at h3
    · rename_i fs hu
      simp only [Option.bind_eq_some_iff] at h
      obtain ⟨l, h1, h2⟩ := h
      split at h2
      · rename_i hl
        simp at h2; subst h2
        obtain ⟨xs, m, _, rfl, hlen, hxl, hf⟩ := DataW.trod_struct hu hx
        obtain ⟨ds, hds⟩ := opened_fs (cs := cs) (shapeOf P n) (fun t pks h fuel cs x => IH t pks h fuel cs x) fs.toList 0 l h1 (by omega) (fun f hfm => by
          obtain ⟨i, hi⟩ := List.getElem?_of_mem hfm
          have hi2 : fs[i]? = some f := by simpa using hi
          have hlt : i < xs.length := by
            have := (Array.getElem?_eq_some_iff.1 hi2).1
            omega
          exact ⟨m, xs[i], by rw [hf i f hi2]; exact List.getElem?_eq_getElem hlt⟩)
        rw [List.drop_zero, List.take_of_length_le (by omega)] at hds
        exact ⟨ds, hds⟩
      · simp at h2
    · simp at h
end
/-! ### Up: the machine's arguments -/
/-- Arguments, and the cells of the one that is being made. -/
def Ar2 (T : Nat → FuncId) (base : Nat) (W : World) (vs' : List Value) (ds : List DV) (cs' : List Value) (cds : List DV) : Prop :=
  ∃ (S : Inj) (h : Heap) (vs cs : List Value), HR T S base h W ∧ (∀ (b : Nat) (y : Blk), h[b]? = some y → wr y = false) ∧ VRs T S vs vs' ∧ DRs S00 h vs ds ∧ VRs T S cs cs' ∧ DRs S00 h cs cds
theorem Ar2.of {T : Nat → FuncId} {base : Nat} {W : World} {vs' : List Value} {ds : List DV} (h : Ar T base W vs' ds) : Ar2 T base W vs' ds [] [] := by
  obtain ⟨S, hp, vs, h1, h0, h2, h3⟩ := h
  exact ⟨S, hp, vs, [], h1, h0, h2, h3, .nil, .nil⟩
theorem Ar2.sca {T : Nat → FuncId} {base : Nat} {W : World} {vs' : List Value} {ds : List DV} {cs' : List Value} {cds : List DV} (h : Ar2 T base W vs' ds cs' cds) {k : CK} {v : Value} {d : DV} (hs : Sca k v d) : Ar2 T base W vs' ds (v :: cs') (d :: cds) := by
  obtain ⟨S, hp, vs, cs, h1, h0, h2, h3, h4, h5⟩ := h
  cases hs with
  | int n hw => exact ⟨S, hp, vs, .int .i64 n :: cs, h1, h0, h2, h3, .cons (.int .i64 n) h4, .cons (.lit _ rfl) h5⟩
  | bool b => exact ⟨S, hp, vs, .bool b :: cs, h1, h0, h2, h3, .cons (.bool b) h4, .cons (.lit _ rfl) h5⟩
theorem Ar2.nilS {T : Nat → FuncId} {base : Nat} {W : World} {vs' : List Value} {ds : List DV} {cs' : List Value} {cds : List DV} (h : Ar2 T base W vs' ds cs' cds) : Ar2 T base W vs' ds (.slice none 0 0 :: cs') (.sl [] :: cds) := by
  obtain ⟨S, hp, vs, cs, h1, h0, h2, h3, h4, h5⟩ := h
  exact ⟨S, hp, vs, .slice none 0 0 :: cs, h1, h0, h2, h3, .cons .nilS h4, .cons .slnil h5⟩
theorem vflat_at {es : Nat} : ∀ (Vs : List (List Value)), (∀ vs, vs ∈ Vs → vs.length = es) → ∀ (q : Nat) (v : Value), Vs.flatten[q]? = some v → ∃ i j vs, q = i * es + j ∧ Vs[i]? = some vs ∧ vs[j]? = some v
  | [], _, q, v, h => by simp at h
  | w :: Vs, hl, q, v, h => by
    have hw := hl w (by simp)
    rw [List.flatten_cons] at h
    by_cases hq : q < w.length
    · rw [List.getElem?_append_left hq] at h
      exact ⟨0, q, w, by omega, rfl, h⟩
    · rw [List.getElem?_append_right (by omega)] at h
      obtain ⟨i, j, vs, e1, e2, e3⟩ := vflat_at Vs (fun vs hv => hl vs (by simp [hv])) _ _ h
      exact ⟨i + 1, j, vs, by rw [Nat.add_mul]; omega, by simpa using e2, e3⟩
theorem Scas.sca {es : List CK} {vs : List Value} {ds : List DV} (h : Scas es vs ds) : ∀ (i : Nat) (v : Value) (d : DV), vs[i]? = some v → ds[i]? = some d → ∃ k, Sca k v d := by
  induction h with
  | nil => intro i v d h1 h2; simp at h1
  | cons h _ ih =>
    intro i v d h1 h2
    cases i with
    | zero => simp at h1 h2; subst h1; subst h2; exact ⟨_, h⟩
    | succ i => exact ih i v d (by simpa using h1) (by simpa using h2)
theorem Sca.dr {k : CK} {v : Value} {d : DV} (h : Sca k v d) (S : Cx) (hp : Heap) : DR S hp v d := by
  cases h with
  | int n _ => exact .lit _ rfl
  | bool b => exact .lit _ rfl
theorem Sca.vr {k : CK} {v : Value} {d : DV} (h : Sca k v d) (T : Nat → FuncId) (S : Inj) : VR T S v v := by
  cases h with
  | int n _ => exact .int _ _
  | bool b => exact .bool _
theorem Sca.closed {k : CK} {v : Value} {d : DV} (h : Sca k v d) : closedD d = true := by
  cases h with
  | int n _ => rfl
  | bool b => rfl
theorem Scas.closed {es : List CK} {vs : List Value} {ds : List DV} (h : Scas es vs ds) : closedL ds = true := by
  induction h with
  | nil => rfl
  | cons h _ ih => simp only [closedL, h.closed, ih, Bool.and_self]
theorem scas_flat {es : List CK} : ∀ (Vs : List (List Value)) (L : List (List DV)), L.length = Vs.length → (∀ (i : Nat) (vs : List Value) (ds : List DV), Vs[i]? = some vs → L[i]? = some ds → Scas es vs ds) →
    Vs.flatten.length = Vs.length * es.length ∧ L.flatten.length = Vs.length * es.length ∧ ∀ (q : Nat) (v : Value) (d : DV), Vs.flatten[q]? = some v → L.flatten[q]? = some d → ∃ k, Sca k v d
  | [], [], _, _ => by simp
  | [], _ :: _, h, _ => by simp at h
  | _ :: _, [], h, _ => by simp at h
  | w :: Vs, l :: L, hl, hs => by
    have h0 := hs 0 w l rfl rfl
    obtain ⟨i1, i2, i3⟩ := scas_flat Vs L (by simpa using hl) (fun i vs ds h1 h2 => hs (i + 1) vs ds (by simpa using h1) (by simpa using h2))
    refine ⟨by simp only [List.flatten_cons, List.length_append, List.length_cons, i1, h0.len.1, Nat.add_mul]; omega, by simp only [List.flatten_cons, List.length_append, List.length_cons, i2, h0.len.2, Nat.add_mul]; omega, fun q v d h1 h2 => ?_⟩
    rw [List.flatten_cons] at h1 h2
    by_cases hq : q < es.length
    · rw [List.getElem?_append_left (by rw [h0.len.1]; exact hq)] at h1
      rw [List.getElem?_append_left (by rw [h0.len.2]; exact hq)] at h2
      exact h0.sca q v d h1 h2
    · rw [List.getElem?_append_right (by rw [h0.len.1]; omega), h0.len.1] at h1
      rw [List.getElem?_append_right (by rw [h0.len.2]; omega), h0.len.2] at h2
      exact i3 _ v d h1 h2
theorem Ar2.row {T : Nat → FuncId} {base : Nat} {W : World} {vs' : List Value} {ds : List DV} {cs' : List Value} {cds : List DV} (h : Ar2 T base W vs' ds cs' cds) {es : List CK} {x : Addr} {len cap : Nat} {L : List (List DV)} {Vs : List (List Value)} (hlc : len ≤ cap) (hL : L.length = len) (hV : Vs.length = len)
    (hs : ∀ (i : Nat) (vs : List Value) (ds : List DV), Vs[i]? = some vs → L[i]? = some ds → Scas es vs ds) (hc : ∀ (i : Nat) (vs : List Value), Vs[i]? = some vs → ∀ (j : Nat) (v : Value), vs[j]? = some v → W.cell? (x.add (i * es.length + j)) = some v) :
    Ar2 T base W vs' ds (.slice (some x) len cap :: cs') (.sl L :: cds) := by
  obtain ⟨S, hp, vs, cs, h1, h0, h2, h3, h4, h5⟩ := h
  obtain ⟨f1, f2, f3⟩ := scas_flat Vs L (by omega) hs
  have hel : ∀ vs, vs ∈ Vs → vs.length = es.length := by
    intro vs hv
    obtain ⟨i, hi⟩ := List.getElem?_of_mem hv
    have hlt : i < L.length := by have := (List.getElem?_eq_some_iff.1 hi).1; omega
    exact (hs i vs _ hi (List.getElem?_eq_getElem hlt)).len.1
  have hdl : ∀ el, el ∈ L → el.length = es.length ∧ closedL el = true := by
    intro el hv
    obtain ⟨i, hi⟩ := List.getElem?_of_mem hv
    have hlt : i < Vs.length := by have := (List.getElem?_eq_some_iff.1 hi).1; omega
    have hsc := hs i _ el (List.getElem?_eq_getElem hlt) hi
    exact ⟨hsc.len.2, hsc.closed⟩
  let xs : List Value := Vs.flatten
  have hxl : xs.length = len * es.length := by rw [f1, hV]
  let S2 : Inj := ⟨S.n + 1, upd S.base S.n x, upd S.room S.n (cap * es.length), upd S.esz S.n es.length, upd S.ok S.n true⟩
  have hne : ∀ b, b < S.n → ¬ S.n = b := fun b hb => by omega
  have hx : Ext S S2 := ⟨Nat.le_succ _, fun b hb => by simp [S2, upd, hne b hb.1], fun b hb => by simp [S2, upd, hne b hb.1], fun b hb => by simp [S2, upd, hne b hb.1], fun b hb => by simp [S2, upd, hb.2], fun b hb h => by simpa [S2, upd, hne b hb] using h⟩
  have hn : hp.length = S.n := h1.len
  have hg : Grw S00 hp (hp ++ [.cells true es.length xs]) := .push (fun b (hb : S00.st b) => (show False from hb).elim) _
  have hget : (hp ++ [Blk.cells true es.length xs])[S.n]? = some (.cells true es.length xs) := by rw [← hn]; simp
  have hlow : ∀ (b : Nat) (y : Blk), (hp ++ [Blk.cells true es.length xs])[b]? = some y → hp[b]? = some y ∨ (b = S.n ∧ y = .cells true es.length xs) := by
    intro b y hb
    by_cases hlt : b < hp.length
    · left; rw [List.getElem?_append_left hlt] at hb; exact hb
    · right
      have : b = S.n := by
        have := (List.getElem?_eq_some_iff.1 hb).1
        simp at this; omega
      subst this
      rw [hget] at hb
      exact ⟨rfl, by simpa using hb.symm⟩
  have hsome : ∀ {b : Nat} {y : Blk}, hp[b]? = some y → S2.ok b = true → S.Has b := fun hb hok => ⟨h1.lt hb, hx.back _ (h1.lt hb) hok⟩
  refine ⟨S2, hp ++ [.cells true es.length xs], vs, .slice (some ⟨S.n, 0, none⟩) len len :: cs, ⟨by simp [S2, hn], h1.bs, fun b ro e ys hb hok => ?_, fun b e ys hb hok => ?_, fun b es' hb hok => ?_, fun b b2 y z hy hz _ _ hw hl hne => ?_⟩, fun b y hb => ?_, h2.mono hx, h3.mono (.refl _) hg, .cons ?_ (h4.mono hx), .cons ?_ (h5.mono (.refl _) hg)⟩
  · rcases hlow b _ hb with hb | ⟨rfl, hy⟩
    · have hlt := hsome hb hok
      obtain ⟨k1, k2⟩ := h1.cells b ro e ys hb hlt.2
      refine ⟨by rw [hx.esz b hlt]; exact k1, fun i v hv => ?_⟩
      obtain ⟨v', k3, k4⟩ := k2 i v hv
      exact ⟨v', by rw [hx.base b hlt]; exact k3, k4.mono hx⟩
    · simp at hy; obtain ⟨rfl, rfl, rfl⟩ := hy
      refine ⟨by simp [S2, upd], fun i v hv => ?_⟩
      obtain ⟨i1, j1, w, e1, e2, e3⟩ := vflat_at Vs hel i v hv
      have hlt : i < L.flatten.length := by
        have := (List.getElem?_eq_some_iff.1 hv).1
        rw [f2, ← f1]; exact this
      obtain ⟨k, hk⟩ := f3 i v _ hv (List.getElem?_eq_getElem hlt)
      refine ⟨v, ?_, hk.vr T S2⟩
      have := hc i1 w e2 j1 v e3
      rw [← e1] at this
      simp only [S2, upd, ↓reduceIte]; exact this
  · rcases hlow b _ hb with hb | ⟨rfl, hy⟩
    · have hlt := hsome hb hok
      rw [hx.base b hlt, hx.room b hlt]; exact h1.own b e ys hb hlt.2
    · simp at hy
  · rcases hlow b _ hb with hb | ⟨rfl, hy⟩
    · have hlt := hsome hb hok
      obtain ⟨k1, en, ck, k2, k3, k4⟩ := h1.maps b es' hb hlt.2
      rw [hx.base b hlt]
      refine ⟨k1, en, ck, k2, k3, fun i k v hv => ?_⟩
      obtain ⟨e, m1, m2, m3⟩ := k4 i k v hv
      exact ⟨e, m1, m2.mono hx, m3.mono hx⟩
    · simp at hy
  · rcases hlow b y hy with hy | ⟨rfl, rfl⟩
    · rw [h0 b y hy] at hw; simp at hw
    · simp [wr] at hw
  · rcases hlow b y hb with hb | ⟨rfl, rfl⟩
    · exact h0 b y hb
    · rfl
  · have : x = (S2.base S.n).add 0 := by simp [S2, upd, add0]
    conv => rhs; rw [this]
    exact .slice S.n 0 0 len len cap ⟨by simp [S2], by simp [S2, upd]⟩ (Nat.le_refl _) hlc (.inr rfl) (by simp [S2, upd])
  · have := DR.sl_mk (S := S00) (h := hp ++ [.cells true es.length xs]) (b := S.n) (o := 0) (e := es.length) (c := len) (L := L) (.inr ⟨_, _, hget⟩) (by omega) hdl hget (by rw [hxl, hL]; omega) (by
      rw [List.drop_zero, List.take_of_length_le (by rw [hxl, hL]; exact Nat.le_refl _)]
      exact ⟨by rw [hxl, f2, hV], fun i v d e1 e2 => by obtain ⟨k, hk⟩ := f3 i v d e1 e2; exact hk.dr _ _⟩)
    rw [hL] at this
    exact this
theorem Ar2.cel {T : Nat → FuncId} {base : Nat} {W : World} {vs' : List Value} {ds : List DV} {cs' : List Value} {cds : List DV} (h : Ar2 T base W vs' ds cs' cds) {k : PK} {v : Value} {d : DV} (hs : Cel W k v d) : Ar2 T base W vs' ds (v :: cs') (d :: cds) := by
  cases hs with
  | sca hs => exact h.sca hs
  | nil es => exact h.nilS
  | sl es a len cap L Vs h1 h2 h3 h4 h5 => exact h.row h1 h2 h3 h4 h5
theorem Ar2.cels {T : Nat → FuncId} {base : Nat} {W : World} {vs' : List Value} {ds : List DV} (h : Ar T base W vs' ds) {ks : List PK} {cs : List Value} {cds : List DV} (hs : Cels W ks cs cds) : Ar2 T base W vs' ds cs cds := by
  induction hs with
  | nil => exact .of h
  | cons hd _ ih => exact ih.cel hd
/-- A struct. -/
theorem Ar.str {T : Nat → FuncId} {base : Nat} {W : World} {vs' : List Value} {ds : List DV} (h : Ar T base W vs' ds) {ks : List PK} {cs : Array Value} {cds : List DV} (hs : Cels W ks cs.toList cds) : Ar T base W (.agg cs :: vs') (.agg cds :: ds) := by
  obtain ⟨S, hp, vs, cs1, h1, h0, h2, h3, h4, h5⟩ := Ar2.cels h hs
  refine ⟨S, hp, .agg cs1.toArray :: vs, h1, h0, .cons (.agg cs1.toArray cs (by have := h4.1; simpa using this) fun i v v' e1 e2 => h4.2 i v v' (by simpa using e1) (by simpa using e2)) h2, .cons (.agg _ _ (by simpa using h5.1) fun i v d e1 e2 => h5.2 i v d (by simpa using e1) e2) h3⟩
/-- A slice, or what has one cell alone. -/
theorem Ar.one {T : Nat → FuncId} {base : Nat} {W : World} {vs' : List Value} {ds : List DV} (h : Ar T base W vs' ds) {k : PK} {v : Value} {d : DV} (hs : Cels W [k] [v] [d]) : Ar T base W (v :: vs') (d :: ds) := by
  obtain ⟨S, hp, vs, cs1, h1, h0, h2, h3, h4, h5⟩ := Ar2.cels h hs
  match cs1, h4.1, h4, h5 with
  | [c], _, h4, h5 => exact ⟨S, hp, c :: vs, h1, h0, .cons (h4.2 0 c v rfl rfl) h2, .cons (h5.2 0 c d rfl rfl) h3⟩
/-! ### What is known of an argument -/
def ShpC : CK → DV → Prop
  | .i, d => ∃ n : Int, (-9223372036854775808 ≤ n ∧ n ≤ 9223372036854775807) ∧ d = .lit (.int .i64 n)
  | .b, d => ∃ x : Bool, d = .lit (.bool x)
def ShpE : List CK → List DV → Prop
  | [], [] => True
  | k :: ks, d :: ds => ShpC k d ∧ ShpE ks ds
  | _, _ => False
def ShpP : PK → DV → Prop
  | .c k, d => ShpC k d
  | .s es, d => ∃ L, d = .sl L ∧ ∀ el, el ∈ L → ShpE es el
def Shps : List PK → List DV → Prop
  | [], [] => True
  | k :: ks, d :: ds => ShpP k d ∧ Shps ks ds
  | _, _ => False
theorem Sca.shp {k : CK} {v : Value} {d : DV} (h : Sca k v d) : ShpC k d := by
  cases h with
  | int n h =>
    simp [Lit.wf, IntKind.min, IntKind.max, IntKind.signed, IntKind.bits] at h
    exact ⟨n, ⟨by omega, by omega⟩, rfl⟩
  | bool b => exact ⟨b, rfl⟩
theorem Scas.shp {es : List CK} {vs : List Value} {ds : List DV} (h : Scas es vs ds) : ShpE es ds := by
  induction h with
  | nil => trivial
  | cons h _ ih => exact ⟨h.shp, ih⟩
theorem Cel.shp {W : World} {k : PK} {v : Value} {d : DV} (h : Cel W k v d) : ShpP k d := by
  cases h with
  | sca h => exact h.shp
  | nil es => exact ⟨[], rfl, fun el h => by simp at h⟩
  | sl es a len cap L Vs h1 h2 h3 h4 h5 =>
    refine ⟨L, rfl, fun el hel => ?_⟩
    obtain ⟨i, hi⟩ := List.getElem?_of_mem hel
    have hlt : i < Vs.length := by have := (List.getElem?_eq_some_iff.1 hi).1; omega
    exact (h4 i _ el (List.getElem?_eq_getElem hlt) hi).shp
theorem Cels.shp {W : World} {ks : List PK} {cs : List Value} {ds : List DV} (h : Cels W ks cs ds) : Shps ks ds := by
  induction h with
  | nil => trivial
  | cons h _ ih => exact ⟨h.shp, ih⟩
theorem Cels.one {W : World} {k : PK} {v : Value} {ds : List DV} (h : Cels W [k] [v] ds) : ∃ d, ds = [d] := by
  cases h with
  | cons h hs => cases hs; exact ⟨_, rfl⟩
end Go.Proofs.Cp
