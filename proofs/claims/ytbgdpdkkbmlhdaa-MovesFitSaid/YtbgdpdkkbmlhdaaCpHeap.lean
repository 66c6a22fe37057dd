/- What the operations on memory do to the two heaps. -/
import Derived.Test.YtbgdpdkkbmlhdaaCpRel
set_option linter.unusedSimpArgs false
set_option linter.unusedVariables false
namespace Go.Proofs.Cp
open Go Go.RowKit
variable {P : Program} {T : Nat → FuncId} {S S2 : Inj} {base : Nat} {h : Heap} {W W' : World}

theorem add_lit (b o n : Nat) : (⟨b, o, none⟩ : Addr).add n = ⟨b, o + n, none⟩ := by unfold Addr.add; split <;> simp_all
theorem add_eta (a : Addr) (hs : a.spot = none) (n : Nat) : a.add n = ⟨a.block, a.off + n, none⟩ := by
  obtain ⟨b, o, s⟩ := a
  simp at hs; subst hs
  exact add_lit b o n

def Inj.push (S : Inj) (a : Addr) (r e : Nat) : Inj :=
  ⟨S.n + 1, fun b => if b = S.n then a else S.base b, fun b => if b = S.n then r else S.room b, fun b => if b = S.n then e else S.esz b, fun b => if b = S.n then true else S.ok b⟩
theorem Inj.push_ext (S : Inj) (a : Addr) (r e : Nat) : Ext S (S.push a r e) :=
  ⟨Nat.le_succ _, fun b hb => by simp [Inj.push, Nat.ne_of_lt hb.1], fun b hb => by simp [Inj.push, Nat.ne_of_lt hb.1], fun b hb => by simp [Inj.push, Nat.ne_of_lt hb.1], fun b hb => by simp [Inj.push, hb.2], fun b hb h => by simpa [Inj.push, Nat.ne_of_lt hb] using h⟩
theorem Inj.push_has (S : Inj) (a : Addr) (r e : Nat) : (S.push a r e).Has S.n := ⟨Nat.lt_succ_self _, by simp [Inj.push]⟩
theorem Inj.push_base (S : Inj) (a : Addr) (r e : Nat) : (S.push a r e).base S.n = a := by simp [Inj.push]
theorem Inj.push_room (S : Inj) (a : Addr) (r e : Nat) : (S.push a r e).room S.n = r := by simp [Inj.push]
theorem Inj.push_esz (S : Inj) (a : Addr) (r e : Nat) : (S.push a r e).esz S.n = e := by simp [Inj.push]

theorem get_push {h : Heap} {x y : Blk} {b : Nat} (hb : (h ++ [x])[b]? = some y) : (b < h.length ∧ h[b]? = some y) ∨ (b = h.length ∧ y = x) := by
  rcases Nat.lt_or_ge b h.length with hl | hl
  · exact .inl ⟨hl, by rwa [List.getElem?_append_left hl] at hb⟩
  · rw [List.getElem?_append_right hl] at hb
    rcases Nat.eq_zero_or_pos (b - h.length) with h0 | h0
    · rw [h0] at hb; simp at hb; exact .inr ⟨by omega, hb.symm⟩
    · obtain ⟨k, hk⟩ : ∃ k, b - h.length = k + 1 := ⟨b - h.length - 1, by omega⟩
      rw [hk] at hb; simp at hb

/-- A block that nobody led to becomes a block of the machine's. -/
theorem HR.adopt (hr : HR T S base h W) {g p room e : Nat} {xs : List Value} {cs : Array Value} {t : TypeId} (hg : base ≤ g) (hsz : W.heap.size ≤ W'.heap.size)
    (hk : ∀ k, k < W.heap.size → k ≠ g → W'.heap[k]? = W.heap[k]?) (hfree : ∀ (b : Nat) (x : Blk), h[b]? = some x → S.ok b = true → live x = true → (S.base b).block ≠ g)
    (hc : W'.heap[g]? = some (.cells cs t (0, 0))) (hroom : p + room ≤ cs.size) (hlen : xs.length ≤ room)
    (hx : ∀ (i : Nat) (v : Value), xs[i]? = some v → ∃ v', cs[p + i]? = some v' ∧ VR T S v v') : HR T (S.push ⟨g, p, none⟩ room e) base (h ++ [.cells false e xs]) W' := by
  have hext := S.push_ext ⟨g, p, none⟩ room e
  have old : ∀ (b : Nat) (x : Blk), h[b]? = some x → (S.push ⟨g, p, none⟩ room e).ok b = true → S.Has b := fun b x hb hok => ⟨hr.lt hb, hext.back b (hr.lt hb) hok⟩
  have hkeep : ∀ (b : Nat) (x : Blk), h[b]? = some x → S.ok b = true → live x = true → W'.heap[(S.base b).block]? = W.heap[(S.base b).block]? := fun b x hb hok hl =>
    hk _ (hr.block_lt hb hok hl) (hfree b x hb hok hl)
  have hr' := hr.keep hsz hkeep
  refine ⟨by simp [Inj.push, hr.len], hr'.bs, fun b ro e' xs' hb hok => ?_, fun b e' xs' hb hok => ?_, fun b es hb hok => ?_, fun b b2 x y hb hb2 hok hok2 hw hl hne => ?_⟩
  · rcases get_push hb with ⟨hlt, hb⟩ | ⟨rfl, hy⟩
    · have hs := old b _ hb hok
      rw [hext.esz b hs, hext.base b hs]
      obtain ⟨h1, h2⟩ := hr'.cells b ro e' xs' hb hs.2
      refine ⟨h1, fun i v hv => ?_⟩
      obtain ⟨v', h3, h4⟩ := h2 i v hv
      exact ⟨v', h3, h4.mono hext⟩
    · injection hy with h1 h2 h3
      subst h1; subst h2; subst h3
      rw [hr.len, Inj.push_esz, Inj.push_base]
      refine ⟨rfl, fun i v hv => ?_⟩
      obtain ⟨v', h3, h4⟩ := hx i v hv
      refine ⟨v', ?_, h4.mono hext⟩
      rw [add_lit, cell_of_row W' g (p + i) cs t (0, 0) hc]; exact h3
  · rcases get_push hb with ⟨hlt, hb⟩ | ⟨rfl, hy⟩
    · have hs := old b _ hb hok
      rw [hext.room b hs, hext.base b hs]; exact hr'.own b e' xs' hb hs.2
    · injection hy with h1 h2 h3
      subst h2; subst h3
      rw [hr.len, Inj.push_room, Inj.push_base]
      exact ⟨rfl, hg, hlen, cs, t, hc, hroom⟩
  · rcases get_push hb with ⟨hlt, hb⟩ | ⟨rfl, hy⟩
    · have hs := old b _ hb hok
      rw [hext.base b hs]
      obtain ⟨a1, en, ck, a2, a3, a4⟩ := hr'.maps b es hb hs.2
      refine ⟨a1, en, ck, a2, a3, fun i k v hv => ?_⟩
      obtain ⟨e, a5, a6, a7⟩ := a4 i k v hv
      exact ⟨e, a5, a6.mono hext, a7.mono hext⟩
    · cases hy
  · rcases get_push hb with ⟨hlt, hb⟩ | ⟨hbe, hy⟩ <;> rcases get_push hb2 with ⟨hlt2, hb2⟩ | ⟨hbe2, hy2⟩
    · have hs := old b _ hb hok
      have hs2 := old b2 _ hb2 hok2
      rw [hext.base b hs, hext.base b2 hs2]; exact hr.sep b b2 x y hb hb2 hs.2 hs2.2 hw hl hne
    · have hs := old b _ hb hok
      rw [hbe2, hr.len, Inj.push_base, hext.base b hs]; exact hfree b x hb hs.2 (wr_live hw)
    · have hs2 := old b2 _ hb2 hok2
      rw [hbe, hr.len, Inj.push_base, hext.base b2 hs2]; exact (hfree b2 y hb2 hs2.2 hl).symm
    · omega

/-- A number without an address gets one. -/
def Inj.assign (S : Inj) (n : Nat) (a : Addr) (r e : Nat) : Inj :=
  ⟨S.n, fun b => if b = n then a else S.base b, fun b => if b = n then r else S.room b, fun b => if b = n then e else S.esz b, fun b => if b = n then true else S.ok b⟩
theorem Inj.assign_ext (S : Inj) {n : Nat} (hn : S.ok n = false) (a : Addr) (r e : Nat) : Ext0 S (S.assign n a r e) := by
  have hne : ∀ b, S.ok b = true → b ≠ n := fun b hb he => by subst he; rw [hn] at hb; cases hb
  exact ⟨Nat.le_refl _, fun b hb => by simp [Inj.assign, hne b hb.2], fun b hb => by simp [Inj.assign, hne b hb.2], fun b hb => by simp [Inj.assign, hne b hb.2], fun b hb => by simp [Inj.assign, hb.2]⟩
theorem HR.assign (hr : HR T S base h W) {n g p room e : Nat} {xs : List Value} {cs : Array Value} {t : TypeId} (hn : h[n]? = some (.cells false e xs)) (hnok : S.ok n = false) (hg : base ≤ g) (hsz : W.heap.size ≤ W'.heap.size)
    (hk : ∀ k, k < W.heap.size → k ≠ g → W'.heap[k]? = W.heap[k]?) (hfree : ∀ (b : Nat) (x : Blk), h[b]? = some x → S.ok b = true → live x = true → (S.base b).block ≠ g)
    (hc : W'.heap[g]? = some (.cells cs t (0, 0))) (hroom : p + room ≤ cs.size) (hlen : xs.length ≤ room)
    (hx : ∀ (i : Nat) (v : Value), xs[i]? = some v → ∃ v', cs[p + i]? = some v' ∧ VR T S v v') : HR T (S.assign n ⟨g, p, none⟩ room e) base h W' := by
  have hext := S.assign_ext hnok ⟨g, p, none⟩ room e
  have old : ∀ (b : Nat) (x : Blk), h[b]? = some x → b ≠ n → (S.assign n ⟨g, p, none⟩ room e).ok b = true → S.Has b := fun b x hb hne hok => ⟨hr.lt hb, by simpa [Inj.assign, hne] using hok⟩
  have hkeep : ∀ (b : Nat) (x : Blk), h[b]? = some x → S.ok b = true → live x = true → W'.heap[(S.base b).block]? = W.heap[(S.base b).block]? := fun b x hb hok hl =>
    hk _ (hr.block_lt hb hok hl) (hfree b x hb hok hl)
  have hr' := hr.keep hsz hkeep
  have hnb : (S.assign n ⟨g, p, none⟩ room e).base n = ⟨g, p, none⟩ := by simp [Inj.assign]
  have hnr : (S.assign n ⟨g, p, none⟩ room e).room n = room := by simp [Inj.assign]
  have hne' : (S.assign n ⟨g, p, none⟩ room e).esz n = e := by simp [Inj.assign]
  refine ⟨hr.len, hr'.bs, fun b ro e' xs' hb hok => ?_, fun b e' xs' hb hok => ?_, fun b es hb hok => ?_, fun b b2 x y hb hb2 hok hok2 hw hl hne => ?_⟩
  · by_cases hbn : b = n
    · subst hbn
      rw [hn] at hb; injection hb with hb; injection hb with h1 h2 h3
      subst h2; subst h3
      rw [hnb, hne']
      refine ⟨rfl, fun i v hv => ?_⟩
      obtain ⟨v', h3, h4⟩ := hx i v hv
      refine ⟨v', ?_, h4.mono0 hext⟩
      rw [add_lit, cell_of_row W' g (p + i) cs t (0, 0) hc]; exact h3
    · have hs := old b _ hb hbn hok
      rw [hext.esz b hs, hext.base b hs]
      obtain ⟨h1, h2⟩ := hr'.cells b ro e' xs' hb hs.2
      refine ⟨h1, fun i v hv => ?_⟩
      obtain ⟨v', h3, h4⟩ := h2 i v hv
      exact ⟨v', h3, h4.mono0 hext⟩
  · by_cases hbn : b = n
    · subst hbn
      rw [hn] at hb; injection hb with hb; injection hb with h1 h2 h3
      subst h2; subst h3
      rw [hnb, hnr]
      exact ⟨rfl, hg, hlen, cs, t, hc, hroom⟩
    · have hs := old b _ hb hbn hok
      rw [hext.room b hs, hext.base b hs]; exact hr'.own b e' xs' hb hs.2
  · by_cases hbn : b = n
    · subst hbn; rw [hn] at hb; cases hb
    · have hs := old b _ hb hbn hok
      rw [hext.base b hs]
      obtain ⟨a1, en, ck, a2, a3, a4⟩ := hr'.maps b es hb hs.2
      refine ⟨a1, en, ck, a2, a3, fun i k v hv => ?_⟩
      obtain ⟨e, a5, a6, a7⟩ := a4 i k v hv
      exact ⟨e, a5, a6.mono0 hext, a7.mono0 hext⟩
  · by_cases hbn : b = n
    · have hb2n : b2 ≠ n := fun e => hne (hbn.trans e.symm)
      have hs2 := old b2 _ hb2 hb2n hok2
      rw [hbn, hnb, hext.base b2 hs2]; exact (hfree b2 y hb2 hs2.2 hl).symm
    · have hs := old b _ hb hbn hok
      by_cases hb2n : b2 = n
      · rw [hb2n, hnb, hext.base b hs]; exact hfree b x hb hs.2 (wr_live hw)
      · have hs2 := old b2 _ hb2 hb2n hok2
        rw [hext.base b hs, hext.base b2 hs2]; exact hr.sep b b2 x y hb hb2 hs.2 hs2.2 hw hl hne
/-- Numbers without an address. -/
def Inj.reserve (S : Inj) (k : Nat) : Inj := ⟨S.n + k, S.base, S.room, S.esz, fun b => decide (b < S.n) && S.ok b⟩
theorem Inj.reserve_ext (S : Inj) (k : Nat) : Ext S (S.reserve k) :=
  ⟨Nat.le_add_right _ _, fun _ _ => rfl, fun _ _ => rfl, fun _ _ => rfl, fun b hb => by simp [Inj.reserve, hb.1, hb.2], fun b hb h => by simpa [Inj.reserve, hb] using h⟩
theorem HR.reserve (hr : HR T S base h W) (l : Heap) : HR T (S.reserve l.length) base (h ++ l) W := by
  have hext := S.reserve_ext l.length
  have old : ∀ (b : Nat) (x : Blk), (h ++ l)[b]? = some x → (S.reserve l.length).ok b = true → S.Has b ∧ h[b]? = some x := fun b x hb hok => by
    have hh : S.Has b := by simpa [Inj.reserve, Inj.Has] using hok
    exact ⟨hh, by rw [List.getElem?_append_left (by rw [hr.len]; exact hh.1)] at hb; exact hb⟩
  refine ⟨by simp [Inj.reserve, hr.len], hr.bs, fun b ro e xs hb hok => ?_, fun b e xs hb hok => ?_, fun b es hb hok => ?_, fun b b2 x y hb hb2 hok hok2 hw hl hne => ?_⟩
  · obtain ⟨hs, hb⟩ := old b _ hb hok
    obtain ⟨h1, h2⟩ := hr.cells b ro e xs hb hs.2
    refine ⟨h1, fun i v hv => ?_⟩
    obtain ⟨v', h3, h4⟩ := h2 i v hv
    exact ⟨v', h3, h4.mono hext⟩
  · obtain ⟨hs, hb⟩ := old b _ hb hok
    exact hr.own b e xs hb hs.2
  · obtain ⟨hs, hb⟩ := old b _ hb hok
    obtain ⟨a1, en, ck, a2, a3, a4⟩ := hr.maps b es hb hs.2
    refine ⟨a1, en, ck, a2, a3, fun i k v hv => ?_⟩
    obtain ⟨e, a5, a6, a7⟩ := a4 i k v hv
    exact ⟨e, a5, a6.mono hext, a7.mono hext⟩
  · obtain ⟨hs, hb⟩ := old b _ hb hok
    obtain ⟨hs2, hb2⟩ := old b2 _ hb2 hok2
    exact hr.sep b b2 x y hb hb2 hs.2 hs2.2 hw hl hne
theorem Inj.reserve_ok (S : Inj) (k : Nat) {b : Nat} (hb : S.n ≤ b) : (S.reserve k).ok b = false := by simp [Inj.reserve]; omega

/-- A new block. -/
theorem HR.new (hr : HR T S base h W) {room e : Nat} {xs : List Value} {cs : Array Value} {t : TypeId} (hroom : room ≤ cs.size) (hlen : xs.length ≤ room)
    (hx : ∀ (i : Nat) (v : Value), xs[i]? = some v → ∃ v', cs[i]? = some v' ∧ VR T S v v') :
    HR T (S.push ⟨W.heap.size, 0, none⟩ room e) base (h ++ [.cells false e xs]) (W.alloc (.cells cs t)) :=
  hr.adopt hr.bs (by simp) (fun k hk _ => Below.heap_alloc _ _ _ hk) (fun b x hb hok hl => by have := hr.block_lt hb hok hl; omega)
    (heap_alloc_new W _) (by omega) hlen (fun i v hv => by rw [Nat.zero_add]; exact hx i v hv)

/-- Blocks may be forgotten, or be read alone from now on. -/
theorem HR.weaken (hr : HR T S base h W) {h' : Heap} (hl : h'.length = h.length)
    (hw : ∀ (b : Nat) (x' : Blk), h'[b]? = some x' → ∃ x, h[b]? = some x ∧ (x' = x ∨ x' = frzBlk x ∨ x' = .dead)) : HR T S base h' W := by
  refine ⟨hl.trans hr.len, hr.bs, fun b ro e xs hb hok => ?_, fun b e xs hb hok => ?_, fun b es hb hok => ?_, fun b b2 x y hb hb2 hok hok2 hx hy hne => ?_⟩
  · obtain ⟨x, h1, h2⟩ := hw b _ hb
    rcases h2 with h2 | h2 | h2
    · subst h2; exact hr.cells b ro e xs h1 hok
    · cases x with
      | cells ro' e' xs' => simp [frzBlk] at h2; obtain ⟨_, rfl, rfl⟩ := h2; exact hr.cells b ro' e xs h1 hok
      | map es => simp [frzBlk] at h2
      | dead => simp [frzBlk] at h2
    · cases h2
  · obtain ⟨x, h1, h2⟩ := hw b _ hb
    rcases h2 with h2 | h2 | h2
    · subst h2; exact hr.own b e xs h1 hok
    · cases x <;> simp [frzBlk] at h2
    · cases h2
  · obtain ⟨x, h1, h2⟩ := hw b _ hb
    rcases h2 with h2 | h2 | h2
    · subst h2; exact hr.maps b es h1 hok
    · cases x with
      | cells ro' e' xs' => simp [frzBlk] at h2
      | map es' => simp [frzBlk] at h2; subst h2; exact hr.maps b _ h1 hok
      | dead => simp [frzBlk] at h2
    · cases h2
  · obtain ⟨x0, h1, h2⟩ := hw b _ hb
    obtain ⟨y0, h3, h4⟩ := hw b2 _ hb2
    have wx : wr x0 = true := by
      rcases h2 with rfl | rfl | rfl
      · exact hx
      · cases x0 with
        | cells ro e xs => simp [frzBlk, wr] at hx
        | map es => rfl
        | dead => simp [frzBlk, wr] at hx
      · simp [wr] at hx
    have ly : live y0 = true := by
      rcases h4 with rfl | rfl | rfl
      · exact hy
      · cases y0 with
        | cells ro e xs => cases xs with
          | nil => simp [frzBlk, live] at hy
          | cons a l => cases ro <;> rfl
        | map es => rfl
        | dead => simp [frzBlk, live] at hy
      · simp [live] at hy
    exact hr.sep b b2 x0 y0 h1 h3 hok hok2 wx ly hne
theorem HR.kill (hr : HR T S base h W) (b : Nat) : HR T S base (h.set b .dead) W :=
  hr.weaken (by simp) fun c x' hc => by
    rw [List.getElem?_set] at hc
    split at hc
    · rename_i hbc
      subst hbc
      split at hc
      · rename_i hlt
        simp at hc; subst hc
        exact ⟨_, List.getElem?_eq_getElem hlt, .inr (.inr rfl)⟩
      · simp at hc
    · exact ⟨x', hc, .inl rfl⟩
theorem HR.freeze (hr : HR T S base h W) (n : Nat) : HR T S base (frzFrom n h) W :=
  hr.weaken (by simp [frzFrom]; omega) fun c x' hc => by
    unfold frzFrom at hc
    rcases Nat.lt_or_ge c (h.take n).length with hl | hl
    · rw [List.getElem?_append_left hl, List.getElem?_take] at hc
      split at hc
      · exact ⟨x', hc, .inl rfl⟩
      · simp at hc
    · rw [List.getElem?_append_right hl, List.getElem?_map, List.getElem?_drop] at hc
      cases hx : h[n + (c - (h.take n).length)]? with
      | none => rw [hx] at hc; simp at hc
      | some x =>
        rw [hx] at hc; simp at hc
        have hlt := (List.getElem?_eq_some_iff.1 hx).1
        refine ⟨x, ?_, .inr (.inl hc.symm)⟩
        rw [← hx]; congr 1
        simp at hl ⊢; omega

/-! ### Reading -/
theorem ld1_read (hr : HR T S base h W) {b o : Nat} {v : Value} (hs : S.Has b) (hl : ld1 h b o = some v) : S.Has b ∧ ∃ v', W.cell? ((S.base b).add o) = some v' ∧ VR T S v v' := by
  unfold ld1 at hl
  split at hl
  · rename_i ro e xs hb
    exact ⟨hs, (hr.cells b ro e xs hb hs.2).2 o v hl⟩
  · simp at hl
theorem ldN_read (hr : HR T S base h W) {b o n : Nat} {vs : List Value} (hs : S.Has b) (hl : ldN h b o n = some vs) :
    S.Has b ∧ vs.length = n ∧ ∃ vs', VRs T S vs vs' ∧ ∀ j u, vs'[j]? = some u → W.cell? (((S.base b).add o).add j) = some u := by
  unfold ldN at hl
  split at hl
  · rename_i ro e xs hb
    split at hl
    · rename_i hle
      simp at hl
      have hlen : vs.length = n := by rw [← hl]; simp; omega
      refine ⟨hs, hlen, ?_⟩
      have hv : ∀ j, j < n → ∃ v', W.cell? (((S.base b).add o).add j) = some v' ∧ ∀ v, vs[j]? = some v → VR T S v v' := by
        intro j hj
        have hx : xs[o + j]? = some (xs[o + j]'(by omega)) := List.getElem?_eq_getElem (by omega)
        obtain ⟨v', h1, h2⟩ := (hr.cells b ro e xs hb hs.2).2 (o + j) _ hx
        refine ⟨v', by rw [Addr.add_add]; exact h1, fun v hv => ?_⟩
        rw [← hl, List.getElem?_take, if_pos hj, List.getElem?_drop, hx] at hv
        simp at hv; subst hv; exact h2
      refine ⟨(List.range n).map fun j => (W.cell? (((S.base b).add o).add j)).getD undef, ⟨by simp [hlen], fun i v v' h1 h2 => ?_⟩, fun j u hu => ?_⟩
      · have hi : i < n := by have := (List.getElem?_eq_some_iff.1 h1).1; omega
        obtain ⟨w', h3, h4⟩ := hv i hi
        simp [hi, h3] at h2
        subst h2; exact h4 v h1
      · have hi : j < n := by have := (List.getElem?_eq_some_iff.1 hu).1; simpa using this
        obtain ⟨w', h3, h4⟩ := hv j hi
        simp [hi, h3] at hu
        subst hu; exact h3
    · simp at hl
  · simp at hl

/-! ### Writing -/
theorem put_length {xs vs : List Value} {o : Nat} (hl : o + vs.length ≤ xs.length) : (put xs o vs).length = xs.length := by unfold put; simp; omega
theorem put_get {xs vs : List Value} {o : Nat} (hl : o + vs.length ≤ xs.length) (i : Nat) : (put xs o vs)[i]? = if o ≤ i ∧ i < o + vs.length then vs[i - o]? else xs[i]? := by
  unfold put
  rcases Nat.lt_or_ge i o with h1 | h1
  · rw [if_neg (by omega), List.append_assoc, List.getElem?_append_left (by simp; omega), List.getElem?_take, if_pos h1]
  · rcases Nat.lt_or_ge i (o + vs.length) with h2 | h2
    · rw [if_pos ⟨h1, h2⟩, List.append_assoc, List.getElem?_append_right (by simp; omega), List.getElem?_append_left (by simp; omega)]
      congr 1; simp; omega
    · rw [if_neg (by omega), List.append_assoc, List.getElem?_append_right (by simp; omega), List.getElem?_append_right (by simp; omega), List.getElem?_drop]
      congr 1; simp; omega
theorem get_set_heap {h : Heap} {b c : Nat} {x y : Blk} (hc : (h.set b x)[c]? = some y) : (c = b ∧ y = x ∧ b < h.length) ∨ (c ≠ b ∧ h[c]? = some y) := by
  rw [List.getElem?_set] at hc
  split at hc
  · rename_i hbc
    split at hc
    · simp at hc; exact .inl ⟨hbc.symm, hc.symm, by assumption⟩
    · simp at hc
  · exact .inr ⟨fun e => by simp_all, hc⟩

theorem HR.store (hr : HR T S base h W) {b o : Nat} {vs vs' : List Value} {h' : Heap} (hlt : S.Has b) (hs : stN h b o vs = some h') (hv : VRs T S vs vs') :
    S.Has b ∧ ∃ W', (storeCells ((S.base b).add o) vs').run P W = .ok () W' ∧ HR T S base h' W' ∧ Below base W W' := by
  unfold stN at hs
  split at hs
  · rename_i e xs hb
    split at hs
    · rename_i hle
      obtain ⟨hle, hone⟩ := hle
      simp at hs; subst hs
      obtain ⟨a1, a2, a3, cs, t, hc, a4⟩ := hr.own b e xs hb hlt.2
      refine ⟨hlt, ?_⟩
      have hvl := hv.1
      have hone' : ∀ v ∈ vs', v.oneCell' = true := by
        intro v hm
        obtain ⟨i, hi⟩ := List.getElem?_of_mem hm
        have hil : i < vs.length := by rw [hvl]; exact (List.getElem?_eq_some_iff.1 hi).1
        have := hv.2 i _ v (List.getElem?_eq_getElem hil) hi
        rw [one_oneCell, this.one]
        exact all_get hone (List.getElem?_eq_getElem hil)
      have hrun := run_storeCells_at P (S.base b).block ((S.base b).off + o) t vs' 0 cs W hc (by omega) hone'
      rw [← add_eta _ a1] at hrun
      refine ⟨_, hrun, ?_, ?_⟩
      · have hnew := setRow_heap W (S.base b).block cs (cs.toList.take ((S.base b).off + o + 0) ++ vs' ++ cs.toList.drop ((S.base b).off + o + 0 + vs'.length)).toArray t (0, 0) hc
        generalize hN : W.setRow (S.base b).block (cs.toList.take ((S.base b).off + o + 0) ++ vs' ++ cs.toList.drop ((S.base b).off + o + 0 + vs'.length)).toArray = N at hnew ⊢
        have hsz : W.heap.size = N.heap.size := by rw [← hN]; simp
        have hoth : ∀ k, k ≠ (S.base b).block → N.heap[k]? = W.heap[k]? := fun k hk => by rw [← hN]; simp [World.setRow, Array.getElem?_modify, Ne.symm hk]
        have hkeep : ∀ (c : Nat) (x : Blk), h[c]? = some x → S.ok c = true → live x = true → c ≠ b → N.heap[(S.base c).block]? = W.heap[(S.base c).block]? := fun c x hx hok hl hne =>
          hoth _ ((hr.sep b c _ x hb hx hlt.2 hok rfl hl (Ne.symm hne)).symm)
        have hcell : ∀ i, N.cell? ((S.base b).add i) = (cs.toList.take ((S.base b).off + o) ++ vs' ++ cs.toList.drop ((S.base b).off + o + vs'.length))[(S.base b).off + i]? := fun i => by
          rw [add_eta _ a1, cell_of_row N _ _ _ t (0, 0) hnew]; simp
        have hput : ∀ i, (cs.toList.take ((S.base b).off + o) ++ vs' ++ cs.toList.drop ((S.base b).off + o + vs'.length))[(S.base b).off + i]? = if o ≤ i ∧ i < o + vs'.length then vs'[i - o]? else cs.toList[(S.base b).off + i]? := fun i => by
          have := put_get (xs := cs.toList) (vs := vs') (o := (S.base b).off + o) (by simp; omega) ((S.base b).off + i)
          unfold put at this
          rw [this]
          by_cases hcond : o ≤ i ∧ i < o + vs'.length
          · rw [if_pos hcond, if_pos (by omega)]; congr 1; omega
          · rw [if_neg hcond, if_neg (by omega)]
        refine ⟨by simp [hr.len], by rw [← hsz]; exact hr.bs, fun c ro e' xs' hx hok => ?_, fun c e' xs' hx hok => ?_, fun c es hx hok => ?_, fun c c2 x y hx hy hok hok2 hw hl hne => ?_⟩
        · rcases get_set_heap hx with ⟨rfl, hy, _⟩ | ⟨hne, hx⟩
          · injection hy with h1 h2 h3
            subst h1; subst h2; subst h3
            obtain ⟨b1, b2⟩ := hr.cells c false e' xs hb hok
            refine ⟨b1, fun i v hv2 => ?_⟩
            rw [put_get hle] at hv2
            split at hv2
            · rename_i hcond
              have hil : i - o < vs'.length := by omega
              refine ⟨vs'[i - o], ?_, hv.2 (i - o) _ _ hv2 (List.getElem?_eq_getElem hil)⟩
              rw [hcell, hput, if_pos (by omega)]; exact List.getElem?_eq_getElem hil
            · rename_i hcond
              obtain ⟨v', h1, h2⟩ := b2 i v hv2
              refine ⟨v', ?_, h2⟩
              rw [hcell, hput, if_neg (by omega)]
              rw [add_eta _ a1, cell_of_row W _ _ _ t (0, 0) hc] at h1
              simpa using h1
          · obtain ⟨b1, b2⟩ := hr.cells c ro e' xs' hx hok
            refine ⟨b1, fun i v hv2 => ?_⟩
            obtain ⟨v', h1, h2⟩ := b2 i v hv2
            refine ⟨v', ?_, h2⟩
            have hl : live (.cells ro e' xs') = true := by cases xs' with | nil => simp at hv2 | cons => cases ro <;> rfl
            rw [World.cell?_of_block (w := W) (by rw [add_block]; exact hkeep c _ hx hok hl hne)]; exact h1
        · rcases get_set_heap hx with ⟨rfl, hy, _⟩ | ⟨hne, hx⟩
          · injection hy with h1 h2 h3
            subst h2; subst h3
            exact ⟨a1, a2, by rw [put_length hle]; exact a3, _, t, hnew, by simp; omega⟩
          · rw [hkeep c _ hx hok rfl hne]; exact hr.own c e' xs' hx hok
        · rcases get_set_heap hx with ⟨rfl, hy, _⟩ | ⟨hne, hx⟩
          · cases hy
          · rw [hkeep c _ hx hok rfl hne]; exact hr.maps c es hx hok
        · have old : ∀ (c : Nat) (x : Blk), (h.set b (.cells false e (put xs o vs)))[c]? = some x → ∃ x0, h[c]? = some x0 ∧ wr x0 = wr x ∧ (live x = true → live x0 = true) := by
            intro c x hx
            rcases get_set_heap hx with ⟨rfl, rfl, _⟩ | ⟨_, hx⟩
            · exact ⟨_, hb, rfl, fun _ => rfl⟩
            · exact ⟨x, hx, rfl, id⟩
          obtain ⟨x0, c1, c2', _⟩ := old c x hx
          obtain ⟨y0, c3, _, c4⟩ := old c2 y hy
          exact hr.sep c c2 x0 y0 c1 c3 hok hok2 (by rw [c2']; exact hw) (c4 hl) hne
      · refine ⟨rfl, rfl, rfl, by simp, fun k hk => ?_⟩
        have : k ≠ (S.base b).block := by omega
        simp [World.setRow, Array.getElem?_modify, Ne.symm this]
    · simp at hs
  · simp at hs
end Go.Proofs.Cp
