/- The machine is sound. -/
import Derived.Test.YtbgdpdkkbmlhdaaCpSound3
import Derived.Test.YtbgdpdkkbmlhdaaCpFrame
set_option linter.unusedSimpArgs false
set_option linter.unusedVariables false
namespace Go.Proofs.Cp
open Go Go.RowKit
section
variable {G : Ctx} {base : Nat} {call : Calls_}

/-- What led to old blocks alone leads to old blocks alone. -/
theorem VR.back_of {T : Nat → FuncId} {S S2 : Inj} (hx : Ext S S2) {v y0 y : Value} (h0 : VR T S v y0) (h : VR T S2 v y) : VR T S v y := by
  induction h0 generalizing y with
  | bool b => cases h; exact .bool b
  | int k n => cases h; exact .int k n
  | str s => cases h; exact .str s
  | nilP => cases h; exact .nilP
  | ptr b o hb => cases h with | ptr _ _ _ => rw [hx.base b hb]; exact .ptr b o hb
  | nilS => cases h; exact .nilS
  | slice b o p l c c' hb h1 h2 h3 h4 =>
    cases h with
    | slice _ _ p2 _ _ c2 _ k1 k2 k3 k4 => rw [hx.base b hb]; exact .slice b o p2 l c c2 hb k1 k2 k3 (by rw [hx.esz b hb, hx.room b hb] at k4; exact k4)
  | nilM => cases h; exact .nilM
  | map b hb => cases h with | map _ _ => rw [hx.base b hb]; exact .map b hb
  | nilF => cases h; exact .nilF
  | func f cs cs' hs hh ih =>
    cases h with
    | func _ _ cs2 hs2 hh2 =>
      refine .func f cs cs2 hs2 fun i v v' h1 h2 => ?_
      have hl : i < cs'.size := by rw [← hs]; exact (Array.getElem?_eq_some_iff.1 h1).1
      exact ih i v _ h1 (Array.getElem?_eq_getElem hl) (hh2 i v v' h1 h2)
  | agg cs cs' hs hh ih =>
    cases h with
    | agg _ cs2 hs2 hh2 =>
      refine .agg cs cs2 hs2 fun i v v' h1 h2 => ?_
      have hl : i < cs'.size := by rw [← hs]; exact (Array.getElem?_eq_some_iff.1 h1).1
      exact ih i v _ h1 (Array.getElem?_eq_getElem hl) (hh2 i v v' h1 h2)
  | tuple cs cs' hs hh ih =>
    cases h with
    | tuple _ cs2 hs2 hh2 =>
      refine .tuple cs cs2 hs2 fun i v v' h1 h2 => ?_
      have hl : i < cs'.size := by rw [← hs]; exact (Array.getElem?_eq_some_iff.1 h1).1
      exact ih i v _ h1 (Array.getElem?_eq_getElem hl) (hh2 i v v' h1 h2)

/-- New blocks may be forgotten where no old one leads to them. -/
theorem HR.trunc {S S2 : Inj} {h h' h2 : Heap} {W W' : World} (hr : HR G.T S base h W) (hr' : HR G.T S2 base h' W') (hx : Ext S S2) (hl : h2.length = h.length)
    (hg : ∀ b, b < h.length → h2[b]? = h'[b]?) (hok : ∀ b, b < h.length → h'[b]? = h[b]? ∨ blkOk S.n h'[b]? = true) : HR G.T S base h2 W' := by
  have hb2 : ∀ {b : Nat} {x : Blk}, h2[b]? = some x → b < h.length ∧ b < S.n ∧ h'[b]? = some x := fun {b x} hb => by
    have hlt : b < h.length := by rw [← hl]; exact (List.getElem?_eq_some_iff.1 hb).1
    exact ⟨hlt, by rw [← hr.len]; exact hlt, by rw [← hg b hlt]; exact hb⟩
  refine ⟨hl.trans hr.len, hr'.bs, fun b ro e xs hb hok2 => ?_, fun b e xs hb hok2 => ?_, fun b es hb hok2 => ?_, fun b c x y hb hc hok2 hok3 hw hlv hne => ?_⟩
  · obtain ⟨h1, h2', h3⟩ := hb2 hb
    have h2' : S.Has b := ⟨h2', hok2⟩
    have hok2' := hx.ok b h2'
    obtain ⟨h4, h5⟩ := hr'.cells b ro e xs h3 hok2'
    rw [hx.esz b h2'] at h4
    refine ⟨h4, fun i v hv => ?_⟩
    obtain ⟨v', h6, h7⟩ := h5 i v hv
    rw [hx.base b h2'] at h6
    refine ⟨v', h6, ?_⟩
    rcases hok b h1 with ho | ho
    · rw [h3] at ho
      obtain ⟨_, h8⟩ := hr.cells b ro e xs ho.symm hok2
      obtain ⟨y0, _, h9⟩ := h8 i v hv
      exact VR.back_of hx h9 h7
    · rw [h3] at ho
      simp only [blkOk] at ho
      exact VR.back_lf hx (all_get ho hv) h7
  · obtain ⟨h1, h2', h3⟩ := hb2 hb
    have h2' : S.Has b := ⟨h2', hok2⟩
    have hok2' := hx.ok b h2'
    have := hr'.own b e xs h3 hok2'
    rwa [hx.base b h2', hx.room b h2'] at this
  · obtain ⟨h1, h2', h3⟩ := hb2 hb
    have h2' : S.Has b := ⟨h2', hok2⟩
    have hok2' := hx.ok b h2'
    rcases hok b h1 with ho | ho
    · rw [h3] at ho
      obtain ⟨h4, en, ck, h5, h6, h7⟩ := hr'.maps b es h3 hok2'
      obtain ⟨_, en0, ck0, _, _, h8⟩ := hr.maps b es ho.symm hok2
      rw [hx.base b h2'] at h4 h5
      refine ⟨h4, en, ck, h5, h6, fun i k v hv => ?_⟩
      obtain ⟨e, h9, h10, h11⟩ := h7 i k v hv
      obtain ⟨e0, _, h12, h13⟩ := h8 i k v hv
      exact ⟨e, h9, VR.back_of hx h12 h10, VR.back_of hx h13 h11⟩
    · rw [h3] at ho; simp [blkOk] at ho
  · obtain ⟨_, h1, h3⟩ := hb2 hb
    obtain ⟨_, h4, h5⟩ := hb2 hc
    have hb' : S.Has b := ⟨h1, hok2⟩
    have hc' : S.Has c := ⟨h4, hok3⟩
    have := hr'.sep b c x y h3 h5 (hx.ok b hb') (hx.ok c hc') hw hlv hne
    rwa [hx.base b hb', hx.base c hc'] at this

theorem gc_sound {S S' : Inj} {h h' : Heap} {W W' : World} {v v' : Value} {ws : List Nat} (hr : HR G.T S base h W) (hf : Fr h h' ws) (hx : Ext S S') (hv : VR G.T S' v v') (hr' : HR G.T S' base h' W') (hb : Below base W W') {v2 : Value} {ef : Eff}
    (hg : gc h (v, h', ws) = (v2, ef)) : After G.T S base h W v2 ef v' W' := by
  unfold gc at hg
  simp only at hg
  have hsub : ∀ b, b < h.length → b ∉ ws.filter (fun b => decide (b < h.length)) → b ∉ ws := fun b hb hn hm => hn (by simp [hm, hb])
  split at hg
  · rename_i hcond
    simp only [Bool.and_eq_true] at hcond
    obtain ⟨hnn, hall⟩ := hcond
    have hvS : VR G.T S v v' := VR.back hx (by rw [← hr.len]; exact noNew_up hnn) hv
    have hok : ∀ b, b < h.length → h'[b]? = h[b]? ∨ blkOk S.n h'[b]? = true := fun b hb => by
      by_cases hm : b ∈ ws.filter (fun b => decide (b < h.length))
      · right; rw [← hr.len]; exact List.all_eq_true.1 hall b hm
      · left; exact hf.get b hb (hsub b hb hm)
    split at hg
    · rename_i hw
      simp only [Prod.mk.injEq] at hg
      obtain ⟨rfl, rfl⟩ := hg
      refine ⟨S, .refl _, fun _ => rfl, hvS, ?_, hb⟩
      refine hr.trunc hr' hx rfl (fun b hb => ?_) hok
      exact (hf.get b hb (hsub b hb (by rw [hw]; simp))).symm
    · simp only [Prod.mk.injEq] at hg
      obtain ⟨rfl, rfl⟩ := hg
      refine ⟨S, .refl _, by simp, hvS, ?_, hb⟩
      refine hr.trunc hr' hx (foldl_set_len _ _) (fun b hb => ?_) hok
      simp only [hof]
      rw [foldl_set_get _ _ _ hb hf.len]
      split
      · rfl
      · rename_i hm; exact (hf.get b hb (hsub b hb hm)).symm
  · simp only [Prod.mk.injEq] at hg
    obtain ⟨rfl, rfl⟩ := hg
    exact ⟨S', hx, by simp, hv, hr', hb⟩

/-- The program's functions, as the machine has them. -/
def Holds (G : Ctx) (P : Prog) : Prop := ∀ f fn, P f = some fn → ∃ F fz, G.P.funcs[G.T f]? = some F ∧ cFun { G with frz := fz } fn.iso F = some fn

theorem cFun_iso {iso : Bool} {F : Func} {fn : IFun} (hc : cFun G iso F = some fn) : fn.iso = iso := by
  unfold cFun at hc
  split at hc
  · simp at hc
  · split at hc
    · simp at hc
    · simp only [Option.bind_eq_some_iff, Option.map_eq_some_iff] at hc
      obtain ⟨rs, _, ib, _, rfl⟩ := hc
      rfl

theorem step_sound (hm : G.P.follows .mixedOrders = true) {P : Prog} (hP : Holds G P) {k : Nat} (hcall : CallSound G call) (hfr : CallFr call) : CallSound G (stepF P k call) := by
  intro f args h v ef hr S base W args' hh hg ha
  unfold stepF at hr
  split at hr
  · simp at hr
  · rename_i fn hfn
    obtain ⟨F, fz, hF, hc⟩ := hP f fn hfn
    split at hr
    · simp only [Option.map_eq_some_iff] at hr
      obtain ⟨⟨v0, h0, w0⟩, h1, h2⟩ := hr
      simp only [Prod.mk.injEq] at h2
      obtain ⟨rfl, rfl⟩ := h2
      obtain ⟨hen, hC⟩ := fun_sound (G := { G with frz := fz }) hm hcall hfr hF hc h1 hh hg ha
      refine ⟨hen, Calls.mono hC fun en W' hen' => ?_⟩
      obtain ⟨v', S', rfl, hx, hv, hh', hb⟩ := hen'
      exact ⟨v', rfl, S', hx, by simp, hv, hh', hb⟩
    · simp only [Option.map_eq_some_iff] at hr
      obtain ⟨r, h1, h2⟩ := hr
      obtain ⟨v0, h0, w0⟩ := r
      obtain ⟨hen, hC⟩ := fun_sound (G := { G with frz := fz }) hm hcall hfr hF hc h1 hh hg ha
      refine ⟨hen, Calls.mono hC fun en W' hen' => ?_⟩
      obtain ⟨v', S', rfl, hx, hv, hh', hb⟩ := hen'
      exact ⟨v', rfl, gc_sound hh (runFun_fr hfr h1) hx hv hh' hb h2⟩

/-- WHAT THE MACHINE ANSWERS, THE MODEL'S CALL COMES TO. -/
theorem mach_sound (hm : G.P.follows .mixedOrders = true) {P : Prog} (hP : Holds G P) {X : Calls_} (hX : CallSound G X) (hXf : CallFr X) : ∀ k, CallSound G (mach P X k)
  | 0 => by intro f args h v ef hr; simp [mach] at hr
  | k + 1 => by
    intro f args h v ef hr
    simp only [mach] at hr
    split at hr
    · exact hX f args h v ef hr
    · exact step_sound hm hP (mach_sound hm hP hX hXf k) (mach_fr hXf k) f args h v ef hr
end
end Go.Proofs.Cp
