/- How the abstract machine's values and heaps stand for the model's. -/
import Derived.Test.YtbgdpdkkbmlhdaaCpCore
import Derived.Laws.IdiomCopy
import Derived.Laws.Cells
import Derived.Laws.Rows
import Derived.DataElems
set_option linter.unusedSimpArgs false
set_option linter.unusedVariables false
namespace Go.Proofs.Cp
open Go Go.RowKit

/-- Where the abstract blocks lie. -/
structure Inj where
  n : Nat
  base : Nat → Addr
  room : Nat → Nat
  esz : Nat → Nat
  ok : Nat → Bool
/-- A block that has an address. -/
def Inj.Has (S : Inj) (b : Nat) : Prop := b < S.n ∧ S.ok b = true

/-- More blocks, the old ones where they were. -/
structure Ext0 (S S2 : Inj) : Prop where
  n : S.n ≤ S2.n
  base : ∀ b, S.Has b → S2.base b = S.base b
  room : ∀ b, S.Has b → S2.room b = S.room b
  esz : ∀ b, S.Has b → S2.esz b = S.esz b
  ok : ∀ b, S.Has b → S2.ok b = true
structure Ext (S S2 : Inj) : Prop where
  n : S.n ≤ S2.n
  base : ∀ b, S.Has b → S2.base b = S.base b
  room : ∀ b, S.Has b → S2.room b = S.room b
  esz : ∀ b, S.Has b → S2.esz b = S.esz b
  ok : ∀ b, S.Has b → S2.ok b = true
  back : ∀ b, b < S.n → S2.ok b = true → S.ok b = true
theorem Ext.ext0 {S S2 : Inj} (h : Ext S S2) : Ext0 S S2 := ⟨h.n, h.base, h.room, h.esz, h.ok⟩
theorem Ext0.has {S S2 : Inj} (h : Ext0 S S2) {b : Nat} (hb : S.Has b) : S2.Has b := ⟨Nat.lt_of_lt_of_le hb.1 h.n, h.ok b hb⟩
theorem Ext0.trans {A B C : Inj} (h : Ext0 A B) (k : Ext0 B C) : Ext0 A C :=
  ⟨Nat.le_trans h.n k.n, fun b hb => (k.base b (h.has hb)).trans (h.base b hb), fun b hb => (k.room b (h.has hb)).trans (h.room b hb),
    fun b hb => (k.esz b (h.has hb)).trans (h.esz b hb), fun b hb => k.ok b (h.has hb)⟩
theorem Ext.has {S S2 : Inj} (h : Ext S S2) {b : Nat} (hb : S.Has b) : S2.Has b := ⟨Nat.lt_of_lt_of_le hb.1 h.n, h.ok b hb⟩
theorem Ext.hasB {S S2 : Inj} (h : Ext S S2) {b : Nat} (hb : b < S.n) (h2 : S2.Has b) : S.Has b := ⟨hb, h.back b hb h2.2⟩
theorem Ext.refl (S : Inj) : Ext S S := ⟨Nat.le_refl _, fun _ _ => rfl, fun _ _ => rfl, fun _ _ => rfl, fun _ h => h.2, fun _ _ h => h⟩
theorem Ext.trans {A B C : Inj} (h : Ext A B) (k : Ext B C) : Ext A C :=
  ⟨Nat.le_trans h.n k.n, fun b hb => (k.base b (h.has hb)).trans (h.base b hb), fun b hb => (k.room b (h.has hb)).trans (h.room b hb),
    fun b hb => (k.esz b (h.has hb)).trans (h.esz b hb), fun b hb => k.ok b (h.has hb), fun b hb hk => h.back b hb (k.back b (Nat.lt_of_lt_of_le hb h.n) hk)⟩

inductive VR (T : Nat → FuncId) (S : Inj) : Value → Value → Prop
  | bool (b : Bool) : VR T S (.bool b) (.bool b)
  | int (k : IntKind) (n : Int) : VR T S (.int k n) (.int k n)
  | str (s : ByteArray) : VR T S (.string s) (.string s)
  | nilP : VR T S (.pointer none) (.pointer none)
  | ptr (b o : Nat) (h : S.Has b) : VR T S (.pointer (some ⟨b, o, none⟩)) (.pointer (some ((S.base b).add o)))
  | nilS : VR T S (.slice none 0 0) (.slice none 0 0)
  | slice (b o p l c c' : Nat) (h : S.Has b) (h1 : l ≤ c) (h2 : c ≤ c') (h3 : c = 0 ∨ p = o) (h4 : p + c' * S.esz b ≤ S.room b) :
      VR T S (.slice (some ⟨b, o, none⟩) l c) (.slice (some ((S.base b).add p)) l c')
  | nilM : VR T S (.map none) (.map none)
  | map (b : Nat) (h : S.Has b) : VR T S (.map (some b)) (.map (some (S.base b).block))
  | nilF : VR T S .nilFunc .nilFunc
  | func (f : Nat) (cs cs' : Array Value) (hs : cs.size = cs'.size) (h : ∀ (i : Nat) (v v' : Value), cs[i]? = some v → cs'[i]? = some v' → VR T S v v') :
      VR T S (.func (.func f) #[] cs) (.func (.func (T f)) #[] cs')
  | agg (cs cs' : Array Value) (hs : cs.size = cs'.size) (h : ∀ (i : Nat) (v v' : Value), cs[i]? = some v → cs'[i]? = some v' → VR T S v v') : VR T S (.agg cs) (.agg cs')
  | tuple (cs cs' : Array Value) (hs : cs.size = cs'.size) (h : ∀ (i : Nat) (v v' : Value), cs[i]? = some v → cs'[i]? = some v' → VR T S v v') : VR T S (.tuple cs) (.tuple cs')

theorem VR.mono0 {T : Nat → FuncId} {S S2 : Inj} (hx : Ext0 S S2) {v v' : Value} (h : VR T S v v') : VR T S2 v v' := by
  induction h with
  | bool b => exact .bool b
  | int k n => exact .int k n
  | str s => exact .str s
  | nilP => exact .nilP
  | ptr b o h => rw [← hx.base b h]; exact .ptr b o (hx.has h)
  | nilS => exact .nilS
  | slice b o p l c c' h h1 h2 h3 h4 => rw [← hx.base b h]; exact .slice b o p l c c' (hx.has h) h1 h2 h3 (by rw [hx.esz b h, hx.room b h]; exact h4)
  | nilM => exact .nilM
  | map b h => rw [← hx.base b h]; exact .map b (hx.has h)
  | nilF => exact .nilF
  | func f cs cs' hs _ ih => exact .func f cs cs' hs ih
  | agg cs cs' hs _ ih => exact .agg cs cs' hs ih
  | tuple cs cs' hs _ ih => exact .tuple cs cs' hs ih

theorem VR.mono {T : Nat → FuncId} {S S2 : Inj} (hx : Ext S S2) {v v' : Value} (h : VR T S v v') : VR T S2 v v' := h.mono0 hx.ext0
theorem VR.undef {T : Nat → FuncId} {S : Inj} : VR T S undef undef := .tuple #[] #[] rfl (fun i v v' h => by simp at h)

/-- Lists of values, one by one. -/
def VRs (T : Nat → FuncId) (S : Inj) (l l' : List Value) : Prop := l.length = l'.length ∧ ∀ (i : Nat) (v v' : Value), l[i]? = some v → l'[i]? = some v' → VR T S v v'
theorem VRs.nil {T : Nat → FuncId} {S : Inj} : VRs T S [] [] := ⟨rfl, fun i v v' h => by simp at h⟩
theorem VRs.cons {T : Nat → FuncId} {S : Inj} {x x' : Value} {l l' : List Value} (h : VR T S x x') (hs : VRs T S l l') : VRs T S (x :: l) (x' :: l') :=
  ⟨by simp [hs.1], fun i v v' h1 h2 => by
    cases i with
    | zero => simp at h1 h2; subst h1; subst h2; exact h
    | succ i => simp at h1 h2; exact hs.2 i v v' h1 h2⟩
theorem VRs.head {T : Nat → FuncId} {S : Inj} {x x' : Value} {l l' : List Value} (h : VRs T S (x :: l) (x' :: l')) : VR T S x x' := h.2 0 x x' rfl rfl
theorem VRs.tail {T : Nat → FuncId} {S : Inj} {x x' : Value} {l l' : List Value} (h : VRs T S (x :: l) (x' :: l')) : VRs T S l l' :=
  ⟨by have := h.1; simpa using this, fun i v v' h1 h2 => h.2 (i + 1) v v' (by simpa using h1) (by simpa using h2)⟩
theorem VRs.mono {T : Nat → FuncId} {S S2 : Inj} (hx : Ext S S2) {l l' : List Value} (h : VRs T S l l') : VRs T S2 l l' := ⟨h.1, fun i v v' h1 h2 => (h.2 i v v' h1 h2).mono hx⟩
theorem VRs.append {T : Nat → FuncId} {S : Inj} {l l' m m' : List Value} (h : VRs T S l l') (k : VRs T S m m') : VRs T S (l ++ m) (l' ++ m') := by
  refine ⟨by simp [h.1, k.1], fun i v v' h1 h2 => ?_⟩
  rcases Nat.lt_or_ge i l.length with hi | hi
  · rw [List.getElem?_append_left hi] at h1
    rw [List.getElem?_append_left (by rw [← h.1]; exact hi)] at h2
    exact h.2 i v v' h1 h2
  · rw [List.getElem?_append_right hi] at h1
    rw [List.getElem?_append_right (by rw [← h.1]; exact hi), ← h.1] at h2
    exact k.2 _ v v' h1 h2
theorem VRs.take {T : Nat → FuncId} {S : Inj} {l l' : List Value} (h : VRs T S l l') (n : Nat) : VRs T S (l.take n) (l'.take n) := by
  refine ⟨by simp [h.1], fun i v v' h1 h2 => ?_⟩
  rw [List.getElem?_take] at h1 h2
  split at h1
  · rename_i hi; rw [if_pos hi] at h2; exact h.2 i v v' h1 h2
  · simp at h1
theorem VRs.drop {T : Nat → FuncId} {S : Inj} {l l' : List Value} (h : VRs T S l l') (n : Nat) : VRs T S (l.drop n) (l'.drop n) := by
  refine ⟨by simp [h.1], fun i v v' h1 h2 => ?_⟩
  rw [List.getElem?_drop] at h1 h2
  exact h.2 _ v v' h1 h2
theorem VRs.map {T : Nat → FuncId} {S : Inj} {α : Type} {l : List α} {f g : α → Value} (h : ∀ x ∈ l, VR T S (f x) (g x)) : VRs T S (l.map f) (l.map g) := by
  refine ⟨by simp, fun i v v' h1 h2 => ?_⟩
  rw [List.getElem?_map] at h1 h2
  cases hx : l[i]? with
  | none => rw [hx] at h1; simp at h1
  | some x => rw [hx] at h1 h2; simp at h1 h2; subst h1; subst h2; exact h x (List.mem_of_getElem? hx)
theorem VRs.replicate {T : Nat → FuncId} {S : Inj} {v v' : Value} (h : VR T S v v') (n : Nat) : VRs T S (List.replicate n v) (List.replicate n v') := by
  induction n with
  | zero => exact .nil
  | succ n ih => exact .cons h ih
theorem VR.agg_iff {T : Nat → FuncId} {S : Inj} {l : List Value} {v' : Value} (h : VR T S (.agg l.toArray) v') : ∃ l', v' = .agg l'.toArray ∧ VRs T S l l' := by
  cases h with
  | agg _ cs' hs h => exact ⟨cs'.toList, by simp, by simpa using hs, fun i v v' h1 h2 => h i v v' (by simpa using h1) (by simpa using h2)⟩
theorem VR.agg_mk {T : Nat → FuncId} {S : Inj} {l l' : List Value} (h : VRs T S l l') : VR T S (.agg l.toArray) (.agg l'.toArray) :=
  .agg _ _ (by simpa using h.1) (fun i v v' h1 h2 => h.2 i v v' (by simpa using h1) (by simpa using h2))
theorem VR.tuple_mk {T : Nat → FuncId} {S : Inj} {l l' : List Value} (h : VRs T S l l') : VR T S (.tuple l.toArray) (.tuple l'.toArray) :=
  .tuple _ _ (by simpa using h.1) (fun i v v' h1 h2 => h.2 i v v' (by simpa using h1) (by simpa using h2))
theorem VR.func_mk {T : Nat → FuncId} {S : Inj} {f : Nat} {l l' : List Value} (h : VRs T S l l') : VR T S (.func (.func f) #[] l.toArray) (.func (.func (T f)) #[] l'.toArray) :=
  .func f _ _ (by simpa using h.1) (fun i v v' h1 h2 => h.2 i v v' (by simpa using h1) (by simpa using h2))
/-- The cells of a value. -/
theorem VR.cells {T : Nat → FuncId} {S : Inj} {v v' : Value} (h : VR T S v v') : VRs T S v.cells.toList v'.cells.toList := by
  have one : ∀ {x x' : Value}, VR T S x x' → VRs T S [x] [x'] := fun h => .cons h .nil
  cases h with
  | agg cs cs' hs h => exact ⟨by simpa [Value.cells] using hs, fun i v v' h1 h2 => h i v v' (by simpa [Value.cells] using h1) (by simpa [Value.cells] using h2)⟩
  | _ => exact one (by constructor <;> assumption)
theorem VR.one {T : Nat → FuncId} {S : Inj} {v v' : Value} (h : VR T S v v') : one v' = one v := by cases h <;> rfl
theorem one_oneCell (v : Value) : v.oneCell' = one v := by cases v <;> rfl

theorem VR.back_lf {T : Nat → FuncId} {S S2 : Inj} (hx : Ext S S2) {v v' : Value} (hv : lf S.n v = true) (h : VR T S2 v v') : VR T S v v' := by
  cases h with
  | bool b => exact .bool b
  | int k n => exact .int k n
  | str s => exact .str s
  | nilP => exact .nilP
  | ptr b o h =>
    have hb : S.Has b := hx.hasB (by simpa [lf] using hv) h
    rw [hx.base b hb]; exact .ptr b o hb
  | nilS => exact .nilS
  | slice b o p l c c' h h1 h2 h3 h4 =>
    have hb : S.Has b := hx.hasB (by simpa [lf] using hv) h
    rw [hx.base b hb]; exact .slice b o p l c c' hb h1 h2 h3 (by rw [hx.esz b hb, hx.room b hb] at h4; exact h4)
  | nilM => exact .nilM
  | map b h =>
    have hb : S.Has b := hx.hasB (by simpa [lf] using hv) h
    rw [hx.base b hb]; exact .map b hb
  | nilF => exact .nilF
  | func f cs cs' hs h => simp [lf] at hv
  | agg cs cs' hs h => simp [lf] at hv
  | tuple cs cs' hs h => simp [lf] at hv
theorem all_get {α : Type} {p : α → Bool} {l : List α} (h : l.all p = true) {i : Nat} {x : α} (hx : l[i]? = some x) : p x = true := List.all_eq_true.1 h x (List.mem_of_getElem? hx)
theorem VR.back_lf2 {T : Nat → FuncId} {S S2 : Inj} (hx : Ext S S2) {v v' : Value} (hv : lf2 S.n v = true) (h : VR T S2 v v') : VR T S v v' := by
  cases h with
  | agg cs cs' hs h =>
    simp only [lf2] at hv
    exact .agg cs cs' hs fun i v v' h1 h2 => (h i v v' h1 h2).back_lf hx (all_get hv (by simpa using h1))
  | bool b => exact .bool b
  | int k n => exact .int k n
  | str s => exact .str s
  | nilP => exact .nilP
  | ptr b o h => exact VR.back_lf hx (by simpa [lf2] using hv) (.ptr b o h)
  | nilS => exact .nilS
  | slice b o p l c c' h h1 h2 h3 h4 => exact VR.back_lf hx (by simpa [lf2] using hv) (.slice b o p l c c' h h1 h2 h3 h4)
  | nilM => exact .nilM
  | map b h => exact VR.back_lf hx (by simpa [lf2] using hv) (.map b h)
  | nilF => exact .nilF
  | func f cs cs' hs h => simp [lf2, lf] at hv
  | tuple cs cs' hs h => simp [lf2, lf] at hv
theorem VR.back {T : Nat → FuncId} {S S2 : Inj} (hx : Ext S S2) {v v' : Value} (hv : noNew S.n v = true) (h : VR T S2 v v') : VR T S v v' := by
  cases h with
  | tuple cs cs' hs h =>
    simp only [noNew] at hv
    exact .tuple cs cs' hs fun i v v' h1 h2 => (h i v v' h1 h2).back_lf2 hx (all_get hv (by simpa using h1))
  | agg cs cs' hs h => exact VR.back_lf2 hx (by simpa [noNew] using hv) (.agg cs cs' hs h)
  | bool b => exact .bool b
  | int k n => exact .int k n
  | str s => exact .str s
  | nilP => exact .nilP
  | ptr b o h => exact VR.back_lf2 hx (by simpa [noNew] using hv) (.ptr b o h)
  | nilS => exact .nilS
  | slice b o p l c c' h h1 h2 h3 h4 => exact VR.back_lf2 hx (by simpa [noNew] using hv) (.slice b o p l c c' h h1 h2 h3 h4)
  | nilM => exact .nilM
  | map b h => exact VR.back_lf2 hx (by simpa [noNew] using hv) (.map b h)
  | nilF => exact .nilF
  | func f cs cs' hs h => simp [noNew, lf2, lf] at hv

/-! ### Heaps -/
def live : Blk → Bool
  | .dead => false
  | .cells true _ [] => false
  | _ => true
def wr : Blk → Bool
  | .cells false _ _ => true
  | .map _ => true
  | _ => false

theorem wr_live {x : Blk} (h : wr x = true) : live x = true := by
  cases x with
  | cells ro e xs => cases ro with
    | true => simp [wr] at h
    | false => rfl
  | map es => rfl
  | dead => simp [wr] at h

structure HR (T : Nat → FuncId) (S : Inj) (base : Nat) (h : Heap) (W : World) : Prop where
  len : h.length = S.n
  bs : base ≤ W.heap.size
  cells : ∀ (b : Nat) (ro : Bool) (e : Nat) (xs : List Value), h[b]? = some (.cells ro e xs) → S.ok b = true → S.esz b = e ∧ ∀ (i : Nat) (v : Value), xs[i]? = some v → ∃ v', W.cell? ((S.base b).add i) = some v' ∧ VR T S v v'
  own : ∀ (b e : Nat) (xs : List Value), h[b]? = some (.cells false e xs) → S.ok b = true → (S.base b).spot = none ∧ base ≤ (S.base b).block ∧ xs.length ≤ S.room b ∧
    ∃ cs t, W.heap[(S.base b).block]? = some (.cells cs t (0, 0)) ∧ (S.base b).off + S.room b ≤ cs.size
  maps : ∀ (b : Nat) (es : List (Value × Value)), h[b]? = some (.map es) → S.ok b = true → base ≤ (S.base b).block ∧
    ∃ en ck, W.heap[(S.base b).block]? = some (.map en ck) ∧ en.size = es.length ∧ ∀ (i : Nat) (k v : Value), es[i]? = some (k, v) → ∃ e, en[i]? = some e ∧ VR T S k e.key ∧ VR T S v e.val
  sep : ∀ (b b2 : Nat) (x y : Blk), h[b]? = some x → h[b2]? = some y → S.ok b = true → S.ok b2 = true → wr x = true → live y = true → b ≠ b2 → (S.base b).block ≠ (S.base b2).block

variable {T : Nat → FuncId} {S S2 : Inj} {base : Nat} {h : Heap} {W W' : World}

/-- The heap of the model may grow, or turn where no block lies. -/
theorem HR.keep (hr : HR T S base h W) (hsz : W.heap.size ≤ W'.heap.size) (hk : ∀ (b : Nat) (x : Blk), h[b]? = some x → S.ok b = true → live x = true → W'.heap[(S.base b).block]? = W.heap[(S.base b).block]?) : HR T S base h W' := by
  refine ⟨hr.len, Nat.le_trans hr.bs hsz, fun b ro e xs hb hok => ⟨(hr.cells b ro e xs hb hok).1, fun i v hv => ?_⟩, fun b e xs hb hok => ?_, fun b es hb hok => ?_, hr.sep⟩
  · obtain ⟨v', h1, h2⟩ := (hr.cells b ro e xs hb hok).2 i v hv
    refine ⟨v', ?_, h2⟩
    have hl : live (.cells ro e xs) = true := by cases xs with | nil => simp at hv | cons => cases ro <;> rfl
    have hbl : ((S.base b).add i).block = (S.base b).block := by unfold Addr.add; split <;> rfl
    rw [World.cell?_of_block (w := W) (by rw [hbl]; exact hk b _ hb hok hl)]; exact h1
  · rw [hk b _ hb hok rfl]; exact hr.own b e xs hb hok
  · rw [hk b _ hb hok rfl]; exact hr.maps b es hb hok
theorem HR.lt (hr : HR T S base h W) {b : Nat} {x : Blk} (hb : h[b]? = some x) : b < S.n := by
  rw [← hr.len]; exact (List.getElem?_eq_some_iff.1 hb).1
theorem add_block (a : Addr) (n : Nat) : (a.add n).block = a.block := by unfold Addr.add; split <;> rfl
/-- A live block that holds something lies in the model's heap. -/
theorem HR.block_lt (hr : HR T S base h W) {b : Nat} {x : Blk} (hb : h[b]? = some x) (hok : S.ok b = true) (hw : live x = true) : (S.base b).block < W.heap.size := by
  cases x with
  | cells ro e xs =>
    cases ro with
    | true =>
      cases xs with
      | nil => simp [live] at hw
      | cons v xs =>
        obtain ⟨v', h1, _⟩ := (hr.cells b true e _ hb hok).2 0 v rfl
        have := World.block_lt_of_cell? _ _ h1
        rwa [add_block] at this
    | false =>
      obtain ⟨_, _, _, cs, t, hc, _⟩ := hr.own b e xs hb hok
      exact (Array.getElem?_eq_some_iff.1 hc).1
  | map es =>
    obtain ⟨_, en, ck, hc, _⟩ := hr.maps b es hb hok
    exact (Array.getElem?_eq_some_iff.1 hc).1
  | dead => simp [live] at hw
/-- Nothing below the heap's size turns. -/
theorem HR.below (hr : HR T S base h W) (hb : Below W.heap.size W W') : HR T S base h W' := by
  refine ⟨hr.len, Nat.le_trans hr.bs hb.size, fun b ro e xs h1 hok => ⟨(hr.cells b ro e xs h1 hok).1, fun i v hv => ?_⟩, fun b e xs h1 hok => ?_, fun b es h1 hok => ?_, hr.sep⟩
  · obtain ⟨v', h2, h3⟩ := (hr.cells b ro e xs h1 hok).2 i v hv
    exact ⟨v', (hb.cell (World.block_lt_of_cell? _ _ h2)).trans h2, h3⟩
  · obtain ⟨a1, a2, a3, cs, t, hc, a4⟩ := hr.own b e xs h1 hok
    exact ⟨a1, a2, a3, cs, t, (hb.block _ (Array.getElem?_eq_some_iff.1 hc).1).trans hc, a4⟩
  · obtain ⟨a1, en, ck, hc, a2⟩ := hr.maps b es h1 hok
    exact ⟨a1, en, ck, (hb.block _ (Array.getElem?_eq_some_iff.1 hc).1).trans hc, a2⟩
theorem HR.drew (hr : HR T S base h W) : HR T S base h W.drew := hr.below (Below.refl _ _).drew
end Go.Proofs.Cp
