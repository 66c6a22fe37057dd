/- From the second machine's answer to the model's call. No program in sight. -/
import Derived.Test.YtbgdpdkkbmlhdaaCpVF
import Derived.Test.YtbgdpdkkbmlhdaaCpSound4
set_option linter.unusedSimpArgs false
set_option linter.unusedVariables false
namespace Go.Proofs.Cp
open Go Go.RowKit

def S00 : Cx := ⟨0, fun _ => 0, fun _ => 0, fun _ => 0, fun _ => False⟩
/-- Arguments of a call, as both machines have them. -/
def Ar (T : Nat → FuncId) (base : Nat) (W : World) (vs' : List Value) (ds : List DV) : Prop :=
  ∃ (S : Inj) (h : Heap) (vs : List Value), HR T S base h W ∧ (∀ (b : Nat) (y : Blk), h[b]? = some y → wr y = false) ∧ VRs T S vs vs' ∧ DRs S00 h vs ds
variable {T : Nat → FuncId} {base : Nat} {W : World} {vs' : List Value} {ds : List DV}
theorem Ar.nil (hb : base ≤ W.heap.size) : Ar T base W [] [] :=
  ⟨⟨0, fun _ => ⟨0, 0, none⟩, fun _ => 0, fun _ => 0, fun _ => false⟩, [], [], ⟨rfl, hb, fun b _ _ _ hb => by simp at hb, fun b _ _ hb => by simp at hb, fun b _ hb => by simp at hb, fun b _ _ _ hb => by simp at hb⟩, fun b y hb => by simp at hb, .nil, .nil⟩
theorem Ar.int (h : Ar T base W vs' ds) (k : IntKind) (n : Int) : Ar T base W (.int k n :: vs') (.lit (.int k n) :: ds) := by
  obtain ⟨S, hp, vs, h1, h0, h2, h3⟩ := h
  exact ⟨S, hp, .int k n :: vs, h1, h0, .cons (.int k n) h2, .cons (.lit _ rfl) h3⟩
theorem Ar.bool (h : Ar T base W vs' ds) (b : Bool) : Ar T base W (.bool b :: vs') (.lit (.bool b) :: ds) := by
  obtain ⟨S, hp, vs, h1, h0, h2, h3⟩ := h
  exact ⟨S, hp, .bool b :: vs, h1, h0, .cons (.bool b) h2, .cons (.lit _ rfl) h3⟩
theorem add0 (x : Addr) : x.add 0 = x := by obtain ⟨b, o, s⟩ := x; simp [Addr.add]
theorem Ar.ints (h : Ar T base W vs' ds) {a : Option Addr} {len cap : Nat} {zs : List Int} (hz : (a = none ∧ len = 0 ∧ cap = 0 ∧ zs = []) ∨ ∃ x, a = some x ∧ len ≤ cap ∧ zs.length = cap ∧ ∀ i, i < zs.length → W.cell? (x.add i) = some (.int .i64 (zs.getD i 0))) :
    Ar T base W (.slice a len cap :: vs') (.sl ((zs.take len).map fun z => [.lit (.int .i64 z)]) :: ds) := by
  obtain ⟨S, hp, vs, h1, h0, h2, h3⟩ := h
  rcases hz with ⟨rfl, rfl, rfl, rfl⟩ | ⟨x, rfl, hlc, hlen, hcell⟩
  · exact ⟨S, hp, .slice none 0 0 :: vs, h1, h0, .cons .nilS h2, .cons .slnil h3⟩
  · let xs : List Value := (zs.take len).map fun z => .int .i64 z
    have hxl : xs.length = len := by simp [xs]; omega
    let S2 : Inj := ⟨S.n + 1, upd S.base S.n x, upd S.room S.n cap, upd S.esz S.n 1, upd S.ok S.n true⟩
    have hne : ∀ b, b < S.n → ¬ S.n = b := fun b hb => by omega
    have hx : Ext S S2 := ⟨Nat.le_succ _, fun b hb => by simp [S2, upd, hne b hb.1], fun b hb => by simp [S2, upd, hne b hb.1], fun b hb => by simp [S2, upd, hne b hb.1], fun b hb => by simp [S2, upd, hb.2], fun b hb h => by simpa [S2, upd, hne b hb] using h⟩
    have hn : hp.length = S.n := h1.len
    have hg : Grw S00 hp (hp ++ [.cells true 1 xs]) := .push (fun b (hb : S00.st b) => (show False from hb).elim) _
    have hget : (hp ++ [Blk.cells true 1 xs])[S.n]? = some (.cells true 1 xs) := by rw [← hn]; simp
    have hlow : ∀ (b : Nat) (y : Blk), (hp ++ [Blk.cells true 1 xs])[b]? = some y → hp[b]? = some y ∨ (b = S.n ∧ y = .cells true 1 xs) := by
      intro b y hb
      by_cases hlt : b < hp.length
      · left; rw [List.getElem?_append_left hlt] at hb; exact hb
      · right
        have : b = S.n := by
          have := (List.getElem?_eq_some_iff.1 hb).1
          simp at this; omega
        subst this
        rw [hget] at hb
        exact ⟨rfl, by simpa using hb.symm⟩
    have hsome : ∀ {b : Nat} {y : Blk}, hp[b]? = some y → S2.ok b = true → S.Has b := fun hb hok => ⟨h1.lt hb, hx.back _ (h1.lt hb) hok⟩
    refine ⟨S2, hp ++ [.cells true 1 xs], .slice (some ⟨S.n, 0, none⟩) len len :: vs, ⟨by simp [S2, hn], h1.bs, fun b ro e ys hb hok => ?_, fun b e ys hb hok => ?_, fun b es hb hok => ?_, fun b b2 y z hy hz _ _ hw hl hne => ?_⟩, fun b y hb => ?_, .cons ?_ (h2.mono hx), .cons ?_ (h3.mono (.refl _) hg)⟩
    · rcases hlow b _ hb with hb | ⟨rfl, hy⟩
      · have hlt := hsome hb hok
        obtain ⟨k1, k2⟩ := h1.cells b ro e ys hb hlt.2
        refine ⟨by rw [hx.esz b hlt]; exact k1, fun i v hv => ?_⟩
        obtain ⟨v', k3, k4⟩ := k2 i v hv
        exact ⟨v', by rw [hx.base b hlt]; exact k3, k4.mono hx⟩
      · simp at hy; obtain ⟨rfl, rfl, rfl⟩ := hy
        refine ⟨by simp [S2, upd], fun i v hv => ?_⟩
        simp only [xs, List.getElem?_map, Option.map_eq_some_iff] at hv
        obtain ⟨z, hz, rfl⟩ := hv
        refine ⟨.int .i64 z, ?_, .int _ _⟩
        have hi : i < zs.length := by
          have := (List.getElem?_eq_some_iff.1 hz).1
          simp at this; omega
        rw [List.getElem?_take] at hz
        split at hz
        · have := hcell i hi
          simp only [List.getD_eq_getElem?_getD, hz, Option.getD_some] at this
          simp only [S2, upd, ↓reduceIte]; exact this
        · simp at hz
    · rcases hlow b _ hb with hb | ⟨rfl, hy⟩
      · have hlt := hsome hb hok
        rw [hx.base b hlt, hx.room b hlt]; exact h1.own b e ys hb hlt.2
      · simp at hy
    · rcases hlow b _ hb with hb | ⟨rfl, hy⟩
      · have hlt := hsome hb hok
        obtain ⟨k1, en, ck, k2, k3, k4⟩ := h1.maps b es hb hlt.2
        rw [hx.base b hlt]
        refine ⟨k1, en, ck, k2, k3, fun i k v hv => ?_⟩
        obtain ⟨e, m1, m2, m3⟩ := k4 i k v hv
        exact ⟨e, m1, m2.mono hx, m3.mono hx⟩
      · simp at hy
    · rcases hlow b y hy with hy | ⟨rfl, rfl⟩
      · rw [h0 b y hy] at hw; simp at hw
      · simp [wr] at hw
    · rcases hlow b y hb with hb | ⟨rfl, rfl⟩
      · exact h0 b y hb
      · rfl
    · have : x = (S2.base S.n).add 0 := by simp [S2, upd, add0]
      conv => rhs; rw [this]
      exact .slice S.n 0 0 len len cap ⟨by simp [S2], by simp [S2, upd]⟩ (Nat.le_refl _) hlc (.inr rfl) (by simp [S2, upd])
    · have := DR.sl_mk (S := S00) (h := hp ++ [.cells true 1 xs]) (b := S.n) (o := 0) (e := 1) (c := len) (L := (zs.take len).map fun z => [.lit (.int .i64 z)]) (.inr ⟨_, _, hget⟩) (by simp; omega)
        (fun el hel => by simp only [List.mem_map] at hel; obtain ⟨z, _, rfl⟩ := hel; exact ⟨rfl, rfl⟩) hget (by simp; omega) ?_
      · simpa [hlen, Nat.min_eq_left hlc] using this
      · have hf : ((zs.take len).map fun z => [DV.lit (.int .i64 z)]).flatten = (zs.take len).map fun z => DV.lit (.int .i64 z) := by
          generalize zs.take len = l
          induction l with
          | nil => rfl
          | cons z l ih => simp [ih]
        rw [hf]
        refine ⟨by simp [xs], fun i v d e1 e2 => ?_⟩
        simp only [List.drop_zero, xs, List.getElem?_take, List.getElem?_map, Option.map_eq_some_iff] at e1 e2
        split at e1
        · simp only [List.getElem?_map, List.getElem?_take, Option.map_eq_some_iff] at e1
          obtain ⟨a, e3, rfl⟩ := e1
          obtain ⟨b, e4, rfl⟩ := e2
          rw [e3] at e4; simp at e4; subst e4
          exact .lit _ rfl
        · simp at e1
/-- What the second machine answers, the model's call comes to. -/
theorem row_calls {G : Ctx} {P : Prog} {sh : Nat → Bool} {X : Calls_} (hX : CallFr X) (hs : ∀ k, CallSound G (mach P X k)) {f : Nat} {W : World} {vs' : List Value} {ds : List DV} (ha : Ar G.T W.heap.size W vs' ds)
    (hg : GL G W.heap.size W) {H1 : VHeap} (hv : F P sh f ds [] 0 = some (.lit (.bool true), H1)) : Calls G.P (G.T f) vs'.toArray W fun e W' => e = .returned (.bool true) ∧ Below W.heap.size W W' := by
  obtain ⟨S, h, vs, h1, h0, h2, h3⟩ := ha
  obtain ⟨k, hk⟩ := F_iff.1 hv
  obtain ⟨v, hm, wm, S1, m1, _, _, _, m2⟩ := vmach_sound hX k f ds [] 0 _ _ hk S00 (fun _ => False) h vs
    ⟨rfl, fun b => by simp [Cp.hg, gt_nil, S00], fun b hb => by simp [Cp.hg, gt_nil] at hb, fun b c hb => by simp [Cp.hg, gt_nil] at hb⟩ (fun b hb => hb) (fun b hb => hb.elim) h3
  have hvb := m2.bool_inv
  subst hvb
  have hex : ∃ ef, mach P X k f vs h = some (.bool true, ef) := by
    rw [m1]
    split
    · exact ⟨_, rfl⟩
    · unfold gc
      simp only
      split
      · split
        · exact ⟨_, rfl⟩
        · exact ⟨_, rfl⟩
      · exact ⟨_, rfl⟩
  obtain ⟨ef, he⟩ := hex
  refine ((hs k f vs h _ ef he S W.heap.size W vs' h1 hg h2).2).mono fun e W' hp => ?_
  obtain ⟨v', rfl, S', _, _, hvr, _, hb⟩ := hp
  cases hvr
  exact ⟨rfl, hb⟩
end Go.Proofs.Cp
