/- The law BoundSound: for every input it returns true. -/
import Derived.Test.YtjgijnimbnielaaDoorRows
import Derived.Test.YtjgijnimbnielaaDoorHolds
import Derived.Test.YtjgijnimbnielaaDoorFn1
import Derived.Test.YtjgijnimbnielaaDoorTie
import Derived.Test.YtjgijnimbnielaaDoorCards
import Derived.WalkKit
import Derived.ProofKit
import Derived.OpenShut
import Derived.ShutString
import Derived.ChangeOld
import Derived.Below
import Derived.SizedLaws
import Derived.LaidLaws
import Derived.Handed
import Derived.SevenTiedAt
namespace Go.Proofs.YtjgijnimbnielaaDoor.boundSound
open Go.ChangeShapes Go.WideShapes Go.ChangeAt Go.RowKit
open Go.ChangeMaps (open_string shut_string)
set_option linter.unusedVariables false
set_option linter.unusedSimpArgs false
theorem own : ownKnob Tryd.prog.godebug = none := by kernel_rfl
theorem laidOut : laidOutB Tryd.prog = true := by kernel_rfl
def IsRow (k : IntKind) (w : World) (a : Option Addr) (len cap : Nat) (zs : List Int) : Prop :=
  (a = none ∧ len = 0 ∧ cap = 0 ∧ zs = []) ∨
  ∃ x, a = some x ∧ len ≤ cap ∧ cap ≤ maxLen ∧ zs.length = cap ∧ (∀ i, i < zs.length → w.cell? (x.add i) = some (.int k (zs.getD i 0))) ∧ ∀ n ∈ zs, (Lit.int k n).wf = true
theorem IsRow.ar {w : World} {a : Option Addr} {len cap : Nat} {zs : List Int} (h : IsRow .i64 w a len cap zs) : (a = none ∧ len = 0 ∧ cap = 0 ∧ zs = []) ∨ ∃ x, a = some x ∧ len ≤ cap ∧ zs.length = cap ∧ ∀ i, i < zs.length → w.cell? (x.add i) = some (.int .i64 (zs.getD i 0)) := by
  rcases h with h | ⟨x, h1, h2, h3, h4, h5, h6⟩
  · exact .inl h
  · exact .inr ⟨x, h1, h2, h4, h5⟩
theorem wf_i64 {n : Int} (h : (Lit.int .i64 n).wf = true) : Cp.I64 n := by
  simp [Lit.wf, IntKind.min, IntKind.max, IntKind.signed, IntKind.bits] at h
  exact ⟨by omega, by omega⟩
theorem IsRow.i64s {w : World} {a : Option Addr} {len cap : Nat} {zs : List Int} (h : IsRow .i64 w a len cap zs) : Cp.I64s (zs.take len) := by
  intro x hx
  have hx := List.mem_of_mem_take hx
  rcases h with ⟨_, _, _, rfl⟩ | ⟨_, _, _, _, _, _, h⟩
  · simp at hx
  · exact wf_i64 (h x hx)
theorem gN : Tryd.prog.globalNamed "cellplane/rules.plain" = some 0 := by kernel_rfl
theorem gT : (Tryd.prog.globals[0]?).map (·.type) = some 51 := by kernel_rfl
theorem cell_of_laid {W : World} (h : laidMet Tryd.prog Rows.boundSoundRow.laid W) : ∀ (i : Nat) (v : Value), ([.int .i64 0, .int .i64 (-1), .int .i64 (-1), .int .i64 (-1), .int .i64 (-1)] : List Value)[i]? = some v → W.cell? ⟨0, i, none⟩ = some v := by
  obtain ⟨ps, ⟨gg, t, cs, fuel, p, q, hg, ht, hvar, hd, _, _⟩, _⟩ := h
  obtain rfl := Option.some.inj (gN.symm.trans hg)
  obtain rfl := Option.some.inj (gT.symm.trans ht)
  obtain ⟨xs, n, _, hx, hlen, hxl, hf⟩ := DataW.trod_struct Tryd.underlying51 hd
  have hlen : cs.toList.length = 5 := hlen.trans (by kernel_rfl)
  have hxl : xs.length = 5 := hxl
  have hx1 := (Prod.mk.inj hx).1
  have key : ∀ i : Nat, i < 5 → ∀ d p, xs[i]? = some (d, p) → ∃ n, cs.toList[i]? = some (.int .i64 n) ∧ d = .lit (.int .i64 n) := by
    intro i hi d p hxi
    have e : ∃ f : Field, DataW.trod (fun _ => ()) Tryd.prog W 0 (fun _ => true) false n f.type ((cs.toList.drop f.offset).take (Tryd.prog.cellsOf f.type)) = xs[i]? ∧ f.type = 3 ∧ f.offset = i := by
      match i, hi with
      | 0, _ => exact ⟨_, hf 0 _ rfl, rfl, rfl⟩
      | 1, _ => exact ⟨_, hf 1 _ rfl, rfl, rfl⟩
      | 2, _ => exact ⟨_, hf 2 _ rfl, rfl, rfl⟩
      | 3, _ => exact ⟨_, hf 3 _ rfl, rfl, rfl⟩
      | 4, _ => exact ⟨_, hf 4 _ rfl, rfl, rfl⟩
    obtain ⟨f, e1, e2, e3⟩ := e
    rw [e2, e3, hxi] at e1
    obtain ⟨n, h1, h2, _⟩ := DataW.trod_int Tryd.underlying3 e1
    have hd1 := (Prod.mk.inj h2).1
    refine ⟨n, ?_, hd1⟩
    rw [show Tryd.prog.cellsOf 3 = 1 by kernel_rfl] at h1
    have := congrArg (fun l : List Value => l[0]?) h1
    simpa [List.getElem?_take, List.getElem?_drop] using this
  intro i v hv
  have hi : i < 5 := (List.getElem?_eq_some_iff.1 hv).1
  have hg2 : ∃ d p, xs[i]? = some (d, p) := ⟨_, _, (List.getElem?_eq_getElem (by omega) : xs[i]? = some (xs[i].1, xs[i].2))⟩
  obtain ⟨d, p2, hd2⟩ := hg2
  obtain ⟨n2, h1, h2⟩ := key i hi d p2 hd2
  have hdl : (xs.map (·.1))[i]? = some (.lit (.int .i64 n2)) := by rw [List.getElem?_map, hd2, h2]; rfl
  rw [World.var?_cell hg hvar i]
  have hcs : cs[i]? = cs.toList[i]? := by simp
  rw [hcs, h1]
  have hlaid : xs.map (·.1) = [.lit (.int .i64 0), .lit (.int .i64 (-1)), .lit (.int .i64 (-1)), .lit (.int .i64 (-1)), .lit (.int .i64 (-1))] := by have := hx1; simpa [Rows.laid_cellplane_rules_plain] using this.symm
  rw [hlaid] at hdl
  match i, hi with
  | 0, _ => simp at hdl hv; subst hv; rw [← hdl]
  | 1, _ => simp at hdl hv; subst hv; rw [← hdl]
  | 2, _ => simp at hdl hv; subst hv; rw [← hdl]
  | 3, _ => simp at hdl hv; subst hv; rw [← hdl]
  | 4, _ => simp at hdl hv; subst hv; rw [← hdl]
noncomputable def gWorld (os : Os) : World :=
  let w0 := World.holding Tryd.prog os ⟨#[], #[], []⟩
  { w0 with heap := w0.heap.modify 0 fun
      | .cells _ t frozen => .cells #[.int .i64 0, .int .i64 (-1), .int .i64 (-1), .int .i64 (-1), .int .i64 (-1)] t frozen
      | o => o }
theorem laid_met (os : Os) (args : Array Value) : laidMet Tryd.prog Rows.boundSoundRow.laid ((gWorld os).forCall (fun _ _ => 0) ⟨#[], args, []⟩).memory :=
  laidMet_of_run (ps := [.cell 0 0, .cell 0 1, .cell 0 2, .cell 0 3, .cell 0 4]) 8 (by kernel_rfl) (by kernel_rfl) (by kernel_rfl)
theorem walk (W : World) (hL : ∀ (i : Nat) (v : Value), ([.int .i64 0, .int .i64 (-1), .int .i64 (-1), .int .i64 (-1), .int .i64 (-1)] : List Value)[i]? = some v → W.cell? ⟨0, i, none⟩ = some v) (a0 : Option Addr) (len0 cap0 : Nat) (z0 : List Int) (w0 : IsRow .i64 W a0 len0 cap0 z0) (a1 : Option Addr) (len1 cap1 : Nat) (z1 : List Int) (w1 : IsRow .i64 W a1 len1 cap1 z1) (a2 : Option Addr) (len2 cap2 : Nat) (z2 : List Int) (w2 : IsRow .i64 W a2 len2 cap2 z2) (a3 : Int) (w3 : Cp.I64 a3) : Calls Tryd.prog 10 #[.slice a0 len0 cap0, .slice a1 len1 cap1, .slice a2 len2 cap2, .int .i64 a3] W fun e W' => e = .returned (.bool true) ∧ Below W.heap.size W W' := by
  obtain ⟨d, H, h1, rfl⟩ := Cp.law_BoundSound (z0.take len0) w0.i64s (z1.take len1) w1.i64s (z2.take len2) w2.i64s a3 w3
  have hA : Cp.Ar Cp.T W.heap.size W [.slice a0 len0 cap0, .slice a1 len1 cap1, .slice a2 len2 cap2, .int .i64 a3] [Cp.dL (z0.take len0), Cp.dL (z1.take len1), Cp.dL (z2.take len2), Cp.dI a3] := ((((Cp.Ar.nil (Nat.le_refl _)).int .i64 a3).ints w2.ar).ints w1.ar).ints w0.ar
  exact Cp.row_calls (G := Cp.G) (X := fun _ _ _ => none) (f := 88) (fun _ _ _ _ _ _ h => by cases h) Cp.law_sound hA (fun gg vs h => by
    unfold Cp.G Cp.glob at h
    simp only at h
    split at h
    · rename_i hg; subst hg; simp only [Option.some.injEq] at h; subst h
      refine ⟨?_, hL⟩
      have := hL 0 _ rfl
      unfold World.cell? at this
      rcases Nat.lt_or_ge 0 W.heap.size with h1 | h1
      · exact h1
      · simp [h1] at this
    · simp at h) h1
set_option maxRecDepth 100000 in
theorem lifted (os : Os) (started : os.Started) (H : Type) (enc : TypeId × Value → H) :
    ReturnsInHanded {} Tryd.checked os 10 .any (fun w args => (Rows.boundSoundSpec.pre enc Tryd.prog Tryd.f10 Rows.boundSoundRow.domain false w args ∧ laidMet Tryd.prog Rows.boundSoundRow.laid w) ∧ sizedMet enc Tryd.prog Tryd.f10 (OpenSpec.ofChange Rows.boundSoundSpec) false w args) (Rows.boundSoundSpec.post enc Tryd.prog Tryd.f10 false true false false) := by
  refine returnsInHanded_of_change_and (C := Tryd.checked) (X := fun w _ => laidMet Tryd.prog Rows.boundSoundRow.laid w) (fun _ _ _ hh h => h.of_heap hh) own started (by kernel_rfl) Tryd.func10
    (ChangeSpec.witness_at (enc := enc) (C := Tryd.checked) (os := os) (X := fun w _ => laidMet Tryd.prog Rows.boundSoundRow.laid w) false (gWorld os) #[.slice none 0 0, .slice none 0 0, .slice none 0 0, .int .i64 0] 8 rfl (by kernel_rfl) (by kernel_rfl) (by kernel_rfl) (by kernel_rfl) (by kernel_rfl) (laid_met os _)) ?_
  intro W base args ds gs before hval0 hW hcnd hsz0 hL _
  have hval : ∀ (j : Nat) t v, Tryd.f10.params[j]? = some t → args[j]? = some v → Value.okWide Tryd.prog W .any base t v := hval0
  have hW' := hW
  obtain ⟨p, q, hA0, hV, rfl, hfz, hnd⟩ := hW
  have hA : DataW.TrodAll enc Tryd.prog W 0 (fun _ => true) true Tryd.f10.params.toList args.toList ds p := hA0
  rw [Tryd.params10] at hA hval
  obtain ⟨v0, vs0, d0, ds0, p0, q0, hargs, rfl, rfl, h0, r0⟩ := trodAll_cons hA
  obtain ⟨v1, vs1, d1, ds1, p1, q1, rfl, rfl, rfl, h1, r1⟩ := trodAll_cons r0
  obtain ⟨v2, vs2, d2, ds2, p2, q2, rfl, rfl, rfl, h2, r2⟩ := trodAll_cons r1
  obtain ⟨v3, vs3, d3, ds3, p3, q3, rfl, rfl, rfl, h3, r3⟩ := trodAll_cons r2
  obtain ⟨rfl, rfl, rfl⟩ := trodAll_nil r3
  obtain rfl : args = #[v0, v1, v2, v3] := by cases args; simp_all
  obtain ⟨rfl, rfl⟩ := trodVars_none hV
  obtain ⟨a0, len0, cap0, rfl⟩ := okWide_slice Tryd.underlying22 (hval 0 22 v0 rfl rfl)
  have k0 := h0
  have lt0 : ∀ x ∈ p0, x.block < W.heap.size := by obtain ⟨m, hm⟩ := k0; exact DataW.trod_lt m _ _ _ hm
  obtain ⟨z0, w0⟩ : ∃ zs, IsRow .i64 W a0 len0 cap0 zs := by
    obtain ⟨fuel, hf⟩ := h0
    rcases open_ints Tryd.underlying22 Tryd.underlying3 (by kernel_rfl) hf with ⟨hcs, _⟩ | ⟨x, l, c, zs, hcs, _, hl, hm, hz, _, hcell, hwz⟩
    · simp [Value.cells] at hcs
      obtain ⟨rfl, rfl, rfl⟩ := hcs
      exact ⟨[], .inl ⟨rfl, rfl, rfl, rfl⟩⟩
    · simp [Value.cells] at hcs
      obtain ⟨rfl, rfl, rfl⟩ := hcs
      exact ⟨zs, .inr ⟨_, rfl, hl, hm, by simpa using hz, hcell, hwz⟩⟩
  obtain ⟨a1, len1, cap1, rfl⟩ := okWide_slice Tryd.underlying22 (hval 1 22 v1 rfl rfl)
  have k1 := h1
  have lt1 : ∀ x ∈ p1, x.block < W.heap.size := by obtain ⟨m, hm⟩ := k1; exact DataW.trod_lt m _ _ _ hm
  obtain ⟨z1, w1⟩ : ∃ zs, IsRow .i64 W a1 len1 cap1 zs := by
    obtain ⟨fuel, hf⟩ := h1
    rcases open_ints Tryd.underlying22 Tryd.underlying3 (by kernel_rfl) hf with ⟨hcs, _⟩ | ⟨x, l, c, zs, hcs, _, hl, hm, hz, _, hcell, hwz⟩
    · simp [Value.cells] at hcs
      obtain ⟨rfl, rfl, rfl⟩ := hcs
      exact ⟨[], .inl ⟨rfl, rfl, rfl, rfl⟩⟩
    · simp [Value.cells] at hcs
      obtain ⟨rfl, rfl, rfl⟩ := hcs
      exact ⟨zs, .inr ⟨_, rfl, hl, hm, by simpa using hz, hcell, hwz⟩⟩
  obtain ⟨a2, len2, cap2, rfl⟩ := okWide_slice Tryd.underlying22 (hval 2 22 v2 rfl rfl)
  have k2 := h2
  have lt2 : ∀ x ∈ p2, x.block < W.heap.size := by obtain ⟨m, hm⟩ := k2; exact DataW.trod_lt m _ _ _ hm
  obtain ⟨z2, w2⟩ : ∃ zs, IsRow .i64 W a2 len2 cap2 zs := by
    obtain ⟨fuel, hf⟩ := h2
    rcases open_ints Tryd.underlying22 Tryd.underlying3 (by kernel_rfl) hf with ⟨hcs, _⟩ | ⟨x, l, c, zs, hcs, _, hl, hm, hz, _, hcell, hwz⟩
    · simp [Value.cells] at hcs
      obtain ⟨rfl, rfl, rfl⟩ := hcs
      exact ⟨[], .inl ⟨rfl, rfl, rfl, rfl⟩⟩
    · simp [Value.cells] at hcs
      obtain ⟨rfl, rfl, rfl⟩ := hcs
      exact ⟨zs, .inr ⟨_, rfl, hl, hm, by simpa using hz, hcell, hwz⟩⟩
  obtain ⟨a3, rfl, rfl, rfl, w3⟩ := open_int Tryd.underlying3 (hval 3 3 v3 rfl rfl) h3
  clear hA0 hval0 hsz0
  refine (walk W (cell_of_laid hL) a0 len0 cap0 z0 w0 a1 len1 cap1 z1 w1 a2 len2 cap2 z2 w2 a3 (wf_i64 w3)).mono fun e W' ⟨he, bel⟩ => ?_
  subst he
  exact ⟨_, rfl, _, _, _, [], _, [], hW', trodAll_mk1 (shut_bool Tryd.underlying4 _), (trodAll_cons_mk (Below.trod laidOut (by kernel_rfl) (of_decide_eq_true (by kernel_rfl)) k0 bel lt0) (trodAll_cons_mk (Below.trod laidOut (by kernel_rfl) (of_decide_eq_true (by kernel_rfl)) k1 bel lt1) (trodAll_cons_mk (Below.trod laidOut (by kernel_rfl) (of_decide_eq_true (by kernel_rfl)) k2 bel lt2) (trodAll_cons_mk (shut_int Tryd.underlying3 w3) trodAll_mk0)))), rfl, bel.frame _, fun h => by cases h⟩
theorem over : Rows.boundSoundRow.holds Tryd.pinned (OpenSpec.ofChange Rows.boundSoundSpec) :=
  OpenClaim.holds_of_wide 10 Tryd.f10 rfl rfl rfl rfl rfl rfl rfl ⟨rfl, rfl, rfl, rfl, rfl⟩ rfl rfl rfl rfl rfl (by kernel_rfl) Tryd.func10 (by kernel_rfl)
    (of_decide_eq_true (by kernel_rfl)) (by unfold Func.isWrapper; first | (rw [if_pos (by decide +kernel)]; kernel_rfl) | (rw [if_neg (by decide +kernel)]; exact ⟨rfl, rfl⟩))
    (fun os started H enc _ => lifted os started H enc)
theorem proved : Rows.BoundSoundSaid := over
end Go.Proofs.YtjgijnimbnielaaDoor.boundSound
namespace Go.Proofs.YtjgijnimbnielaaDoor
open Go
/-- For every input the law BoundSound returns true, the variable that its road reads being as the program lays it. -/
theorem boundSound_holds : Rows.BoundSoundCardSaid :=
  Claim7.holds_tied_plain_at .later [] [.data] true (true, "36d85b296d592fdd8f1448b9892e6789b45c06a8b14e974ff3eb3a5a02a2e1b6") false
    boundSound.proved (fun _ h => by cases h) (by kernel_rfl) (fun _ h => by cases h) boundSound_row_tie rfl ⟨rfl, rfl⟩ (by kernel_rfl) rfl
    (fun f fn hf hfn => by
      obtain rfl : f = 10 := Option.some.inj ((show Tryd.prog.funcNamed "cellplane/cellplanelaw18.BoundSound" = some 10 by kernel_rfl).symm.trans hf) |>.symm
      obtain rfl : fn = Tryd.f10 := (Option.some.inj (Tryd.func10.symm.trans hfn)).symm
      exact ⟨by kernel_rfl, fun j t ht => by
        rw [Tryd.params10] at ht
        have hm : t ∈ [22, 22, 22, 3] := by simpa using Array.mem_of_getElem? ht
        have hall : ([22, 22, 22, 3].all fun u => !Tryd.prog.wantsStandIn u) = true := by kernel_rfl
        exact (show Tryd.prog.wantsStandIn t = false by simpa using List.all_eq_true.1 hall t hm)⟩)
    (by kernel_rfl)
#print axioms boundSound_holds
end Go.Proofs.YtjgijnimbnielaaDoor
