/- Lemmas by which code is run. No program in sight. -/
import Derived.Test.YtbgdpdkkbmlhdaaCpVF
import Derived.Attr
set_option linter.unusedSimpArgs false
set_option linter.unusedVariables false
namespace Go.Proofs.Cp
open Go

abbrev dI (n : Int) : DV := .lit (.int .i64 n)
abbrev dB (b : Bool) : DV := .lit (.bool b)
section
variable (vc : VCalls) (sh : Nat → Bool) (base nt : Nat) (E : List DV) (H : VHeap)
@[go_sem] theorem vev_t (n : Nat) : vev E (.t n) = gt .bad E n := rfl
@[go_sem] theorem vev_ci (k : IntKind) (n : Int) : vev E (.c (.int k n)) = .lit (.int k n) := rfl
@[go_sem] theorem vev_cb (b : Bool) : vev E (.c (.bool b)) = .lit (.bool b) := rfl
@[go_sem] theorem vev_cn : vev E (.c (.slice none 0 0)) = .lit (.slice none 0 0) := rfl
@[go_sem] theorem vev_cp : vev E (.c (.pointer none)) = .lit (.pointer none) := rfl
@[go_sem] theorem vev_cf : vev E (.c .nilFunc) = .lit .nilFunc := rfl
@[go_sem] theorem vev_f (n : Nat) : vev E (.f n) = .fn n [] := rfl
@[go_sem] theorem vset_s (d : Nat) (v : DV) : vset E (some d) v = st .bad E d v := rfl
@[go_sem] theorem vset_n (v : DV) : vset E none v = E := rfl
@[go_sem] theorem gt_stD (i j : Nat) (v : DV) : gt .bad (st .bad E i v) j = if i = j then v else gt .bad E j := gt_st _ _ _ _ _
@[go_sem] theorem gt_0 (x : DV) : gt .bad (x :: E) 0 = x := rfl
@[go_sem] theorem gt_s (x : DV) (n : Nat) : gt .bad (x :: E) (n + 1) = gt .bad E n := rfl
@[go_sem] theorem vops_nil (s : VSt) : vops vc sh base nt [] s = some s := rfl
@[go_sem] theorem vops_cons (o : IOper) (os : List IOper) (s : VSt) : vops vc sh base nt (o :: os) s = (vop vc sh base nt o s).bind (vops vc sh base nt os) := rfl
@[go_sem] theorem vopsD_nil : vopsD vc sh base nt [] E H = some E := rfl
@[go_sem] theorem vopsD_cons (o : IOper) (os : List IOper) : vopsD vc sh base nt (o :: os) E H = (vopD vc sh base nt o E H).bind fun E' => vopsD vc sh base nt os E' H := rfl
def vgd {α : Type} (E : List DV) (g : Option (Nat × Bool)) (x y : Option α) : Option α := match g with
  | none => x
  | some (t, b) => match gt .bad E t with
    | .lit (.bool c) => if c = b then x else y
    | .tup _ => y
    | _ => none
def vgm {α : Type} (d : DV) (b : Bool) (x y : Option α) : Option α := match d with
  | .lit (.bool c) => if c = b then x else y
  | .tup _ => y
  | _ => none
@[go_sem] theorem vgd_none {α : Type} (x y : Option α) : vgd E none x y = x := rfl
@[go_sem] theorem vgd_some {α : Type} (t : Nat) (b : Bool) (x y : Option α) : vgd E (some (t, b)) x y = vgm (gt .bad E t) b x y := rfl
@[congr] theorem vgm_congr {α : Type} {d d' : DV} {b : Bool} {x y : Option α} (h : d = d') : vgm d b x y = vgm d' b x y := by rw [h]
@[go_sem] theorem vgm_tt {α : Type} (x y : Option α) : vgm (.lit (.bool true)) true x y = x := rfl
@[go_sem] theorem vgm_ff {α : Type} (x y : Option α) : vgm (.lit (.bool false)) false x y = x := rfl
@[go_sem] theorem vgm_tf {α : Type} (x y : Option α) : vgm (.lit (.bool true)) false x y = y := rfl
@[go_sem] theorem vgm_ft {α : Type} (x y : Option α) : vgm (.lit (.bool false)) true x y = y := rfl
@[go_sem] theorem vgm_u {α : Type} (l : List DV) (b : Bool) (x y : Option α) : vgm (.tup l) b x y = y := rfl
theorem vgd_eq {α : Type} (g : Option (Nat × Bool)) (x y : Option α) : (match vwants E g with
    | some true => x
    | some false => y
    | none => none) = vgd E g x y := by
  unfold vwants vgd
  cases g with
  | none => rfl
  | some p =>
    obtain ⟨t, b⟩ := p
    simp only
    generalize gt .bad E t = z
    cases z with
    | lit v =>
      cases v with
      | bool c => cases c <;> cases b <;> rfl
      | _ => rfl
    | _ => rfl
@[go_sem] theorem vop_n (d : Option Nat) (op : IOp) (g : Option (Nat × Bool)) (s : VSt) : vop vc sh base nt ⟨d, op, g⟩ s = vgd s.E g ((viop vc sh base nt d op s.E s.H).map fun r => ⟨vset s.E d r.1, r.2.getD s.H⟩) (some ⟨vset s.E d (.tup []), s.H⟩) := by
  rw [← vgd_eq]; rfl
def quietly (E : List DV) (d : Option Nat) : Option (DV × VEff) → Option (List DV)
  | some (v, none) => some (vset E d v)
  | _ => none
@[go_sem] theorem quietly_some (d : Option Nat) (v : DV) : quietly E d (some (v, none)) = some (vset E d v) := rfl
@[go_sem] theorem vopD_n (d : Option Nat) (op : IOp) (g : Option (Nat × Bool)) : vopD vc sh base nt ⟨d, op, g⟩ E H = vgd E g (quietly E d (viop vc sh base nt d op E H)) (some (vset E d (.tup []))) := by
  rw [← vgd_eq]
  unfold vopD quietly
  rfl
end
def condD (d : DV) (x y : Option (Ex × VSt)) : Option (Ex × VSt) := match d with
  | .lit (.bool true) => x
  | .lit (.bool false) => y
  | _ => none
@[congr] theorem condD_congr {d d' : DV} {x y : Option (Ex × VSt)} (h : d = d') : condD d x y = condD d' x y := by rw [h]
@[go_sem] theorem condD_t (x y : Option (Ex × VSt)) : condD (.lit (.bool true)) x y = x := rfl
@[go_sem] theorem condD_f (x y : Option (Ex × VSt)) : condD (.lit (.bool false)) x y = y := rfl
theorem condD_b (b : Bool) (x y : Option (Ex × VSt)) : condD (.lit (.bool b)) x y = if b = true then x else y := by cases b <;> rfl
@[go_sem] theorem R_condD {P : Prog} {sh : Nat → Bool} {base nt : Nat} (c : Opd) (a b : ICode) (s : VSt) : R P sh base nt (.cond c a b) s = condD (vev s.E c) (R P sh base nt a s) (R P sh base nt b s) := by
  rw [R_cond]; rfl
def andI (k : IntKind) (a b : Int) : Int := k.wrap ((BitVec.ofInt k.bits a &&& BitVec.ofInt k.bits b).toNat)
def orI (k : IntKind) (a b : Int) : Int := k.wrap ((BitVec.ofInt k.bits a ||| BitVec.ofInt k.bits b).toNat)
def xorI (k : IntKind) (a b : Int) : Int := k.wrap ((BitVec.ofInt k.bits a ^^^ BitVec.ofInt k.bits b).toNat)
def andNotI (k : IntKind) (a b : Int) : Int := k.wrap ((BitVec.ofInt k.bits a &&& ~~~ (BitVec.ofInt k.bits b)).toNat)
@[go_sem] theorem binI_add (k : IntKind) (a b : Int) : binI .add k a b = some (.int k (k.wrap (a + b))) := rfl
@[go_sem] theorem binI_sub (k : IntKind) (a b : Int) : binI .sub k a b = some (.int k (k.wrap (a - b))) := rfl
@[go_sem] theorem binI_mul (k : IntKind) (a b : Int) : binI .mul k a b = some (.int k (k.wrap (a * b))) := rfl
@[go_sem] theorem binI_quo (k : IntKind) (a b : Int) : binI .quo k a b = if b = 0 then none else some (.int k (k.wrap (a.tdiv b))) := rfl
@[go_sem] theorem binI_rem (k : IntKind) (a b : Int) : binI .rem k a b = if b = 0 then none else some (.int k (a.tmod b)) := rfl
@[go_sem] theorem binI_and (k : IntKind) (a b : Int) : binI .and k a b = some (.int k (andI k a b)) := rfl
@[go_sem] theorem binI_or (k : IntKind) (a b : Int) : binI .or k a b = some (.int k (orI k a b)) := rfl
@[go_sem] theorem binI_xor (k : IntKind) (a b : Int) : binI .xor k a b = some (.int k (xorI k a b)) := rfl
@[go_sem] theorem binI_andNot (k : IntKind) (a b : Int) : binI .andNot k a b = some (.int k (andNotI k a b)) := rfl
@[go_sem] theorem binI_eql (k : IntKind) (a b : Int) : binI .eql k a b = some (.bool (a == b)) := rfl
@[go_sem] theorem binI_neq (k : IntKind) (a b : Int) : binI .neq k a b = some (.bool (a != b)) := rfl
@[go_sem] theorem binI_lss (k : IntKind) (a b : Int) : binI .lss k a b = some (.bool (decide (a < b))) := rfl
@[go_sem] theorem binI_leq (k : IntKind) (a b : Int) : binI .leq k a b = some (.bool (decide (a ≤ b))) := rfl
@[go_sem] theorem binI_gtr (k : IntKind) (a b : Int) : binI .gtr k a b = some (.bool (decide (a > b))) := rfl
@[go_sem] theorem binI_geq (k : IntKind) (a b : Int) : binI .geq k a b = some (.bool (decide (a ≥ b))) := rfl
attribute [go_sem] R_seq R_reg R_regD R_block R_skip R_exit R_ret thn_normal thn_exit thn_ret leaveB endF endF_ret endF_normal vresL vres vtup viop vbin bin shI veqN veqsL leafEq unV vfill vPs cellsD vmm mm newB putE putL elems vslice vcopy vclear closedD closedL mapO dvLeaf dvOf lit1 lit2
  VB.at_ VB.part hg_hs chunks List.set_cons_zero List.set_cons_succ List.getElem?_map List.length_map Nat.le_refl
attribute [go_sem] Option.map_some Option.bind_some Option.map_none Option.bind_none Option.getD_none Option.getD_some if_true if_false List.map_cons List.map_nil List.append_nil List.nil_append List.cons_append List.length_cons List.length_nil and_true true_and Bool.false_eq_true Bool.true_eq_false
  List.getElem?_cons_zero List.getElem?_cons_succ List.head?_cons List.take_succ_cons List.take_zero List.drop_succ_cons List.drop_zero List.all_cons List.all_nil Bool.and_true Bool.true_and Bool.or_true Bool.true_or Bool.or_false Bool.false_or Bool.not_true Bool.not_false and_self Nat.add_zero Nat.zero_add Nat.sub_zero
@[go_sem] theorem vapp_nil (esz bytes base : Nat) (dst : Option Nat) (H : VHeap) (x : DV) : vappend esz bytes base dst H (.lit (.slice none 0 0)) x = (elems H esz x).bind fun X =>
      if X = [] then some (.lit (.slice none 0 0), none)
      else if X.length * bytes ≤ 140737488355328 ∧ X.length ≤ 9223372036854775807 ∧ esz ≠ 0 ∧ X.all (fun el => el.length == esz && el.all oneD) = true then
        newB base dst H esz X fun b ver => .ms b ver 0 X.length X.length
      else none := rfl
@[go_sem] theorem vapp_ms (esz bytes base : Nat) (dst : Option Nat) (H : VHeap) (b ver i l c : Nat) (x : DV) : vappend esz bytes base dst H (.ms b ver i l c) x = (elems H esz x).bind fun X =>
      if l + X.length ≤ c then
        if X = [] then some (.ms b ver i l c, none)
        else if (hg H b).e = esz then (putL H b ver (i + l) X).map fun H' => (.ms b ver i (l + X.length) c, some H')
        else none
      else if (hg H b).e = esz ∧ esz ≠ 0 ∧ l ≤ c ∧ (l + X.length) * bytes ≤ 140737488355328 ∧ l + X.length ≤ 9223372036854775807 ∧ X.all (fun el => el.length == esz && el.all oneD) = true then
        ((hg H b).part ver i l).bind fun L =>
          let H' := hs H b ⟨ver + 1, 0, false, []⟩
          newB base dst H' esz (L ++ X) fun b ver => .ms b ver 0 (l + X.length) (l + X.length)
      else none := rfl
@[go_sem] theorem oneD_lit (v : Value) : oneD (.lit v) = true := rfl
@[go_sem] theorem oneD_sl (L : List (List DV)) : oneD (.sl L) = true := rfl
@[go_sem] theorem oneD_rp (l : List DV) : oneD (.rp l) = true := rfl
@[go_sem] theorem oneD_fn (f : Nat) (l : List DV) : oneD (.fn f l) = true := rfl
@[go_sem] theorem oneD_mp (b ver i k : Nat) : oneD (.mp b ver i k) = true := rfl
@[go_sem] theorem oneD_ms (b ver i l c : Nat) : oneD (.ms b ver i l c) = true := rfl
@[go_sem] theorem oneD_agg (l : List DV) : oneD (.agg l) = false := rfl
@[go_sem] theorem oneD_tup (l : List DV) : oneD (.tup l) = false := rfl
@[go_sem] theorem oneD_bad : oneD .bad = false := rfl
/-! ### What is seen -/
@[go_sem] theorem frz_int (H : VHeap) (n : Nat) (k : IntKind) (v : Int) : frzD H (n + 1) (.lit (.int k v)) = some (.lit (.int k v)) := rfl
@[go_sem] theorem frz_bool (H : VHeap) (n : Nat) (b : Bool) : frzD H (n + 1) (.lit (.bool b)) = some (.lit (.bool b)) := rfl
@[go_sem] theorem frz_str (H : VHeap) (n : Nat) (b : ByteArray) : frzD H (n + 1) (.lit (.string b)) = some (.lit (.string b)) := rfl
@[go_sem] theorem frz_nil (H : VHeap) (n : Nat) (a : Option Addr) (l c : Nat) : frzD H (n + 1) (.lit (.slice a l c)) = some (.sl []) := rfl
@[go_sem] theorem frz_sl (H : VHeap) (n : Nat) (L : List (List DV)) : frzD H (n + 1) (.sl L) = some (.sl L) := rfl
@[go_sem] theorem frz_rp (H : VHeap) (n : Nat) (l : List DV) : frzD H (n + 1) (.rp l) = some (.rp l) := rfl
@[go_sem] theorem frz_bad (H : VHeap) (n : Nat) : frzD H (n + 1) .bad = some .bad := rfl
@[go_sem] theorem frz_agg (H : VHeap) (n : Nat) (l : List DV) : frzD H (n + 1) (.agg l) = (mapO (frzD H n) l).map .agg := rfl
@[go_sem] theorem frz_tup (H : VHeap) (n : Nat) (l : List DV) : frzD H (n + 1) (.tup l) = (mapO (frzD H n) l).map .tup := rfl
@[go_sem] theorem frz_fn (H : VHeap) (n f : Nat) (l : List DV) : frzD H (n + 1) (.fn f l) = (mapO (frzD H n) l).map (.fn f) := rfl
@[go_sem] theorem frz_mp (H : VHeap) (n b ver i k : Nat) : frzD H (n + 1) (.mp b ver i k) = ((hg H b).at_ ver i).bind fun el => if k ≤ el.length then (mapO (frzD H n) (el.drop k)).map .rp else none := rfl
@[go_sem] theorem frz_ms (H : VHeap) (n b ver i l c : Nat) : frzD H (n + 1) (.ms b ver i l c) = ((hg H b).part ver i l).bind fun L => if l ≤ c then (if L.all closedL then some (.sl L) else (mapO (mapO (frzD H n)) L).map .sl) else none := rfl
/-- A pure function's answer, as its caller sees it. -/
noncomputable def FV (P : Prog) (sh : Nat → Bool) (g : Nat) (args : List DV) : Option DV := (F P sh g args [] 0).bind fun r => frzD r.2 6 r.1
noncomputable def vpure (P : Prog) (sh : Nat → Bool) (base : Nat) (dst : Option Nat) (g : Nat) (cl frz : Bool) (H : VHeap) (args : List DV) : Option (DV × VEff) :=
  (F P sh g args [] 0).bind fun r => vback H r.2 (dst.map (base + ·)) cl frz r.1
theorem vcall_pure {P : Prog} {sh : Nat → Bool} {base nt : Nat} {dst : Option Nat} {g : Nat} {args : List DV} {frz : Bool} {H : VHeap} (hs : sh g = false) :
    vcall (F P sh) sh base nt dst g args frz H = (mapO (frzD H 6) args).bind (vpure P sh base dst g (closedL args) frz H) := by
  unfold vcall; rw [if_neg (by simp [hs])]; rfl
theorem vcall_sh {P : Prog} {sh : Nat → Bool} {base nt : Nat} {dst : Option Nat} {g : Nat} {args : List DV} {H : VHeap} (hs : sh g = true) :
    vcall (F P sh) sh base nt dst g args false H = (F P sh g args H (max H.length (base + nt))).map fun r => (r.1, some r.2) := by
  unfold vcall; rw [if_pos hs]; rfl
theorem frz_lit1 {H : VHeap} {n : Nat} {d e : DV} (h : frzD H n d = some e) (he : lit1 e = true) : d = e := by
  cases n with
  | zero => simp [frzD] at h
  | succ n =>
    cases d with
    | lit v => cases v with
      | slice a l c => rw [frz_nil] at h; simp at h; subst h; simp [lit1] at he
      | _ => simpa [frzD] using h
    | bad => simpa [frzD] using h
    | sl L => simpa [frzD] using h
    | rp l => simpa [frzD] using h
    | agg l => rw [frz_agg] at h; simp only [Option.map_eq_some_iff] at h; obtain ⟨m, _, rfl⟩ := h; simp [lit1] at he
    | tup l => rw [frz_tup] at h; simp only [Option.map_eq_some_iff] at h; obtain ⟨m, _, rfl⟩ := h; simp [lit1] at he
    | fn f l => rw [frz_fn] at h; simp only [Option.map_eq_some_iff] at h; obtain ⟨m, _, rfl⟩ := h; simp [lit1] at he
    | mp b ver i k =>
      rw [frz_mp] at h; simp only [Option.bind_eq_some_iff] at h
      obtain ⟨el, _, h⟩ := h
      split at h
      · simp only [Option.map_eq_some_iff] at h; obtain ⟨m, _, rfl⟩ := h; simp [lit1] at he
      · simp at h
    | ms b ver i l c =>
      rw [frz_ms] at h; simp only [Option.bind_eq_some_iff] at h
      obtain ⟨el, _, h⟩ := h
      split at h
      · split at h
        · simp at h; subst h; simp [lit1] at he
        · simp only [Option.map_eq_some_iff] at h; obtain ⟨m, _, rfl⟩ := h; simp [lit1] at he
      · simp at h
theorem mapO_id {f : DV → Option DV} {p : DV → Bool} (hf : ∀ d e, f d = some e → p e = true → d = e) : ∀ {l m : List DV}, mapO f l = some m → m.all p = true → l = m
  | [], m, h, _ => by simp [mapO] at h; exact h.symm
  | x :: l, m, h, hp => by
    simp only [mapO, Option.bind_eq_some_iff, Option.map_eq_some_iff] at h
    obtain ⟨y, h1, q, h2, rfl⟩ := h
    simp only [List.all_cons, Bool.and_eq_true] at hp
    rw [hf x y h1 hp.1, mapO_id hf h2 hp.2]
theorem frz_lit2 {H : VHeap} {n : Nat} {d e : DV} (h : frzD H n d = some e) (he : lit2 e = true) : d = e := by
  cases n with
  | zero => simp [frzD] at h
  | succ n =>
    cases d with
    | agg l =>
      rw [frz_agg] at h; simp only [Option.map_eq_some_iff] at h
      obtain ⟨m, h1, rfl⟩ := h
      rw [mapO_id (fun d e a b => frz_lit1 a b) h1 he]
    | tup l => rw [frz_tup] at h; simp only [Option.map_eq_some_iff] at h; obtain ⟨m, _, rfl⟩ := h; simp [lit2, lit1] at he
    | fn f l => rw [frz_fn] at h; simp only [Option.map_eq_some_iff] at h; obtain ⟨m, _, rfl⟩ := h; simp [lit2, lit1] at he
    | mp b ver i k =>
      rw [frz_mp] at h; simp only [Option.bind_eq_some_iff] at h
      obtain ⟨el, _, h⟩ := h
      split at h
      · simp only [Option.map_eq_some_iff] at h; obtain ⟨m, _, rfl⟩ := h; simp [lit2, lit1] at he
      · simp at h
    | ms b ver i l c =>
      rw [frz_ms] at h; simp only [Option.bind_eq_some_iff] at h
      obtain ⟨el, _, h⟩ := h
      split at h
      · split at h
        · simp at h; subst h; simp [lit2, lit1] at he
        · simp only [Option.map_eq_some_iff] at h; obtain ⟨m, _, rfl⟩ := h; simp [lit2, lit1] at he
      · simp at h
    | lit v => cases v with
      | slice a l c => rw [frz_nil] at h; simp at h; subst h; simp [lit2, lit1] at he
      | _ => simpa [frzD] using h
    | bad => simpa [frzD] using h
    | sl L => simpa [frzD] using h
    | rp l => simpa [frzD] using h
theorem frz_litD {H : VHeap} {n : Nat} {d e : DV} (h : frzD H n d = some e) (he : litD e = true) : d = e := by
  cases n with
  | zero => simp [frzD] at h
  | succ n =>
    cases d with
    | tup l =>
      rw [frz_tup] at h; simp only [Option.map_eq_some_iff] at h
      obtain ⟨m, h1, rfl⟩ := h
      rw [mapO_id (fun d e a b => frz_lit2 a b) h1 he]
    | agg l => 
      have h' := h
      rw [frz_agg] at h; simp only [Option.map_eq_some_iff] at h
      obtain ⟨m, h1, rfl⟩ := h
      exact frz_lit2 h' he
    | fn f l => rw [frz_fn] at h; simp only [Option.map_eq_some_iff] at h; obtain ⟨m, _, rfl⟩ := h; simp [litD, lit2, lit1] at he
    | mp b ver i k =>
      rw [frz_mp] at h; simp only [Option.bind_eq_some_iff] at h
      obtain ⟨el, _, h⟩ := h
      split at h
      · simp only [Option.map_eq_some_iff] at h; obtain ⟨m, _, rfl⟩ := h; simp [litD, lit2, lit1] at he
      · simp at h
    | ms b ver i l c =>
      rw [frz_ms] at h; simp only [Option.bind_eq_some_iff] at h
      obtain ⟨el, _, h⟩ := h
      split at h
      · split at h
        · simp at h; subst h; simp [litD, lit2, lit1] at he
        · simp only [Option.map_eq_some_iff] at h; obtain ⟨m, _, rfl⟩ := h; simp [litD, lit2, lit1] at he
      · simp at h
    | lit v => cases v with
      | slice a l c => rw [frz_nil] at h; simp at h; subst h; simp [litD, lit2, lit1] at he
      | _ => simpa [frzD] using h
    | bad => simpa [frzD] using h
    | sl L => simpa [frzD] using h
    | rp l => simpa [frzD] using h
theorem fresh_of_lit1 {H : VHeap} {n : Nat} {d : DV} (h : lit1 d = true) : freshD H (n + 1) d = true := by
  cases d <;> simp_all [lit1, freshD]
theorem fresh_of_lit2 {H : VHeap} {n : Nat} {d : DV} (h : lit2 d = true) : freshD H (n + 2) d = true := by
  cases d with
  | agg l => simp only [freshD, List.all_eq_true, lit2] at h ⊢; exact fun x hx => fresh_of_lit1 (h x hx)
  | lit v => rfl
  | _ => simp [lit2, lit1] at h
theorem fresh_of_litD {H : VHeap} {n : Nat} {d : DV} (h : litD d = true) : freshD H (n + 3) d = true := by
  cases d with
  | tup l => simp only [freshD, List.all_eq_true, litD] at h ⊢; exact fun x hx => fresh_of_lit2 (h x hx)
  | agg l => exact fresh_of_lit2 (n := n + 1) h
  | lit v => rfl
  | _ => simp [litD, lit2, lit1] at h
/-- A call whose answer is numbers alone. -/
theorem vpS {P : Prog} {sh : Nat → Bool} {g : Nat} {args : List DV} {d : DV} (h : FV P sh g args = some d) (hl : litD d = true) (base : Nat) (dst : Option Nat) (cl frz : Bool) (H : VHeap) : vpure P sh base dst g cl frz H args = some (d, none) := by
  unfold FV at h
  simp only [Option.bind_eq_some_iff] at h
  obtain ⟨⟨d0, H1⟩, h1, h2⟩ := h
  have := frz_litD h2 hl; subst this
  unfold vpure
  rw [h1]
  simp only [Option.bind_some]
  unfold vback
  cases frz with
  | true =>
    rw [if_pos rfl, if_pos (by simp [fresh_of_litD (H := H1) (n := 3) hl]), h2]
    simp [hl]
  | false =>
    rw [if_neg (by simp)]
    cases d0 <;> simp_all [litD, lit2, lit1]
/-- A call whose answer has lists. -/
theorem vpL {P : Prog} {sh : Nat → Bool} {g : Nat} {args : List DV} {d : DV} (h : FV P sh g args = some d) (hl : litD d = false) (base : Nat) (dst : Option Nat) (H : VHeap) : vpure P sh base dst g true true H args = some (d, some H) := by
  unfold FV at h
  simp only [Option.bind_eq_some_iff] at h
  obtain ⟨⟨d0, H1⟩, h1, h2⟩ := h
  unfold vpure
  rw [h1]
  simp only [Option.bind_some]
  unfold vback
  rw [if_pos rfl, if_pos (by simp), h2]
  have hd0 : litD d0 = false := by
    cases hh : litD d0 with
    | false => rfl
    | true =>
      exfalso
      have : d = d0 := by
        have hk : ∀ (n : Nat) (x y : DV), lit1 x = true → frzD H1 n x = some y → y = x := by
          intro n x y hx hy
          cases n with
          | zero => simp [frzD] at hy
          | succ n => cases x with
            | lit v => cases v with
              | slice a l c => simp [lit1] at hx
              | _ => simp only [frzD, Option.some.injEq] at hy; exact hy.symm
            | _ => simp [lit1] at hx
        have hm : ∀ (f : DV → Option DV) (p : DV → Bool), (∀ x y, p x = true → f x = some y → y = x) → ∀ (l m : List DV), l.all p = true → mapO f l = some m → m = l := by
          intro f p hf l
          induction l with
          | nil => intro m _ h; simp [mapO] at h; exact h
          | cons x l ih =>
            intro m hp h
            simp only [mapO, Option.bind_eq_some_iff, Option.map_eq_some_iff] at h
            obtain ⟨y, a1, q, a2, rfl⟩ := h
            simp only [List.all_cons, Bool.and_eq_true] at hp
            rw [hf x y hp.1 a1, ih q hp.2 a2]
        have hk2 : ∀ (n : Nat) (x y : DV), lit2 x = true → frzD H1 n x = some y → y = x := by
          intro n x y hx hy
          cases n with
          | zero => simp [frzD] at hy
          | succ n => cases x with
            | agg l =>
              rw [frz_agg] at hy; simp only [Option.map_eq_some_iff] at hy
              obtain ⟨m, a1, rfl⟩ := hy
              rw [hm _ lit1 (hk n) l m hx a1]
            | lit v => exact hk (n + 1) _ _ hx hy
            | _ => simp [lit2, lit1] at hx
        cases d0 with
        | tup l =>
          rw [frz_tup] at h2; simp only [Option.map_eq_some_iff] at h2
          obtain ⟨m, a1, rfl⟩ := h2
          rw [hm _ lit2 (hk2 5) l m hh a1]
        | agg l => exact hk2 6 _ _ hh h2
        | lit v => exact hk2 6 _ _ hh h2
        | _ => simp [litD, lit2, lit1] at hh
      subst this
      rw [hh] at hl; simp at hl
  simp [hd0]
/-- A call whose answer has lists that it made itself. -/
def FVF (P : Prog) (sh : Nat → Bool) (g : Nat) (args : List DV) (d : DV) : Prop := ∃ e H, F P sh g args [] 0 = some (e, H) ∧ frzD H 6 e = some d ∧ freshD H 6 e = true
theorem FVF.fv {P : Prog} {sh : Nat → Bool} {g : Nat} {args : List DV} {d : DV} (h : FVF P sh g args d) : FV P sh g args = some d := by
  obtain ⟨e, H, h1, h2, _⟩ := h
  unfold FV; rw [h1]; exact h2
theorem vpF {P : Prog} {sh : Nat → Bool} {g : Nat} {args : List DV} {d : DV} (h : FVF P sh g args d) (hl : litD d = false) (base : Nat) (dst : Option Nat) (cl : Bool) (H : VHeap) : vpure P sh base dst g cl true H args = some (d, some H) := by
  have hfv := vpL h.fv hl base dst H
  obtain ⟨e, H1, h1, h2, h3⟩ := h
  unfold vpure at hfv ⊢
  rw [h1] at hfv ⊢
  simp only [Option.bind_some] at hfv ⊢
  unfold vback at hfv ⊢
  rw [if_pos rfl] at hfv ⊢
  rw [if_pos (by simp)] at hfv
  rw [if_pos (by simp [h3])]
  exact hfv
theorem w64 {n : Int} (h1 : -9223372036854775808 ≤ n) (h2 : n ≤ 9223372036854775807) : IntKind.wrap .i64 n = n := by
  simp [IntKind.wrap, IntKind.min, IntKind.max, IntKind.signed, IntKind.bits]; omega
abbrev dL (l : List Int) : DV := .sl (l.map fun z => [dI z])
@[go_sem] theorem hg_nil (b : Nat) : hg [] b = ⟨0, 0, false, []⟩ := gt_nil _ _
@[go_sem] theorem hgE (H : VHeap) (b : Nat) (x : VB) (c : Nat) : hg (hs H b x) c = if b = c then x else hg H c := hg_hs H b c x

/-! ### Regions that draw their order, with effects -/
theorem VHeap.ext' {A B : VHeap} (hl : A.length = B.length) (h : ∀ b, hg A b = hg B b) : A = B := by
  apply List.ext_getElem hl
  intro i h1 h2
  have := h i
  unfold hg at this
  rw [gt_getElem?, gt_getElem?, List.getElem?_eq_getElem h1, List.getElem?_eq_getElem h2] at this
  exact this
theorem mergeV_hs {H : VHeap} {ws : List Nat} {b : Nat} {x : VB} (hb : ws.contains b = true) : mergeV H ws (hs (keepV H ws) b x) = hs H b x := by
  apply VHeap.ext'
  · rw [mergeV_len, hs_len, hs_len, keepV_len]
  · intro c
    rw [hg_mergeV _ _ _ (by rw [hs_len, keepV_len]; omega), hg_hs, hg_hs, hg_keepV]
    by_cases hc : ws.contains c = true
    · simp only [hc, Bool.not_true, Bool.and_false, Bool.false_eq_true, ↓reduceIte]
    · have hne : b ≠ c := fun e => hc (by rw [← e]; exact hb)
      simp only [hc, hne, ↓reduceIte, Bool.not_false, Bool.and_true, Bool.not_eq_true] at *
      cases hl : (hg H c).live with
      | true => simp
      | false =>
        simp only [Bool.false_eq_true, ↓reduceIte, hc]
        have : hg H c = { hg H c with live := (hg H c).live } := rfl
        rw [this, hl]
theorem mergeV_in {H H1 : VHeap} {ws : List Nat} {b : Nat} {x : VB} (hb : ws.contains b = true) (hl : H.length ≤ H1.length) : mergeV H ws (hs H1 b x) = hs (mergeV H ws H1) b x := by
  apply VHeap.ext'
  · rw [mergeV_len, hs_len, hs_len, mergeV_len]
  · intro c
    rw [hg_mergeV _ _ _ (by rw [hs_len]; omega), hg_hs, hg_hs, hg_mergeV _ _ _ hl]
    by_cases hc : b = c
    · subst hc; simp only [hb, Bool.not_true, Bool.and_false, Bool.false_eq_true, ↓reduceIte]
    · simp only [hc, ↓reduceIte]
theorem mergeV_ge {H H1 : VHeap} {ws : List Nat} {b : Nat} {x : VB} (hb : H.length ≤ b) (hl : H.length ≤ H1.length) : mergeV H ws (hs H1 b x) = hs (mergeV H ws H1) b x := by
  apply VHeap.ext'
  · rw [mergeV_len, hs_len, hs_len, mergeV_len]
  · intro c
    rw [hg_mergeV _ _ _ (by rw [hs_len]; omega), hg_hs, hg_hs, hg_mergeV _ _ _ hl]
    by_cases hc : b = c
    · subst hc; simp [hg_ge H hb]
    · simp only [hc, ↓reduceIte]
theorem max_add_ne {n m j k : Nat} (h : k < m) : (max n m + j = k) = False := by simp; omega
theorem le_max_add {n m j : Nat} : (n ≤ max n m + j) = True := by simp; omega
theorem mergeV_keep {H : VHeap} {ws : List Nat} : mergeV H ws (keepV H ws) = H := by
  apply VHeap.ext'
  · rw [mergeV_len, keepV_len]
  · intro c
    rw [hg_mergeV _ _ _ (by rw [keepV_len]; omega), hg_keepV]
    by_cases hc : ws.contains c = true
    · simp only [hc, Bool.not_true, Bool.and_false, Bool.false_eq_true, ↓reduceIte]
    · simp only [hc, ↓reduceIte, Bool.not_false, Bool.and_true, Bool.not_eq_true] at *
      cases hl : (hg H c).live with
      | true => simp
      | false =>
        simp only [Bool.false_eq_true, ↓reduceIte, hc]
        have : hg H c = { hg H c with live := (hg H c).live } := rfl
        rw [this, hl]
attribute [go_sem] hg_keepV keepV_len hs_len mergeV_in mergeV_ge mergeV_keep max_add_ne le_max_add R_rgE
def vfin (r : VE) : Option (Ex × VSt) := if r.ld.all (vldOk r.hist) = true then some (.normal, r.st) else none
@[go_sem] theorem vfin_mk (s : VSt) (H0 : VHeap) (hist : List (VHeap × List Nat)) (ld : List (Nat × Nat × Nat × Nat)) : vfin ⟨s, H0, hist, ld⟩ = if ld.all (vldOk hist) = true then some (.normal, s) else none := rfl
def vldCk (b ver : Nat) (x : VHeap × List Nat) : Bool := (hg x.1 b).live && (hg x.1 b).ver == ver && !x.2.contains b
@[go_sem] theorem vldCk_mk (b ver : Nat) (H : VHeap) (ws : List Nat) : vldCk b ver (H, ws) = ((hg H b).live && (hg H b).ver == ver && !ws.contains b) := rfl
@[go_sem] theorem vldOk_eq (hist : List (VHeap × List Nat)) (b ver lo hi : Nat) : vldOk hist (b, ver, lo, hi) = ((hist.take hi).drop lo).all (vldCk b ver) := by
  unfold vldOk
  rw [Bool.eq_iff_iff, List.all_eq_true, List.all_eq_true]
  constructor
  · intro h x hx
    obtain ⟨i, hi'⟩ := List.getElem?_of_mem hx
    rw [List.getElem?_drop, List.getElem?_take] at hi'
    split at hi'
    · rename_i hlt
      have := h (lo + i) (List.mem_range.2 hlt)
      simp only [Bool.or_eq_true, decide_eq_true_eq] at this
      rcases this with h' | h'
      · omega
      · rw [hi'] at h'; exact h'
    · simp at hi'
  · intro h j hj
    rw [List.mem_range] at hj
    simp only at hj
    by_cases hl : j < lo
    · simp [hl]
    · simp only [hl, decide_false, Bool.false_or]
      cases hx : hist[j]? with
      | none => rfl
      | some x =>
        have : ((hist.take hi).drop lo)[j - lo]? = some x := by
          rw [List.getElem?_drop, List.getElem?_take, if_pos (by omega)]
          rw [show lo + (j - lo) = j by omega]; exact hx
        exact h x (List.mem_of_getElem? this)
section
variable (vc : VCalls) (sh : Nat → Bool) (base nt : Nat) (E : List DV) (H H0 : VHeap) (hist : List (VHeap × List Nat)) (ld : List (Nat × Nat × Nat × Nat))
@[go_sem] theorem vrgE_eq (ops : List (IOper × Nat × Nat × Nat)) (s : VSt) : vrgE vc sh base nt ops s = (vpre base 0 [] ops s.H).bind fun H0 => (vopsE vc sh base nt ops ⟨⟨s.E, H0⟩, H0, [], []⟩).bind vfin := rfl
@[go_sem] theorem vpre_nil (k : Nat) (ds : List Nat) : vpre base k ds [] H = some H := rfl
@[go_sem] theorem vpre_0 (k : Nat) (ds : List Nat) (o : IOper) (lo hi : Nat) (os : List (IOper × Nat × Nat × Nat)) : vpre base k ds ((o, 0, lo, hi) :: os) H = vpre base k ds os H := rfl
@[go_sem] theorem vpre_1 (k : Nat) (ds : List Nat) (o : IOper) (lo hi : Nat) (os : List (IOper × Nat × Nat × Nat)) : vpre base k ds ((o, 1, lo, hi) :: os) H = vpre base k ds os H := rfl
@[go_sem] theorem vpre_2 (k : Nat) (ds : List Nat) (o : IOper) (lo hi : Nat) (os : List (IOper × Nat × Nat × Nat)) : vpre base k ds ((o, 2, lo, hi) :: os) H = vpre base k ds os H := rfl
@[go_sem] theorem vpre_3 (k : Nat) (ds : List Nat) (d : Nat) (zs : List Value) (lo hi : Nat) (os : List (IOper × Nat × Nat × Nat)) : vpre base k ds ((⟨some d, .alloc zs, none⟩, 3, lo, hi) :: os) H = if lo = k ∧ ds.contains d = false then vpre base (k + 1) (d :: ds) os (hs H (base + d) ⟨(hg H (base + d)).ver + 1, 0, true, [zs.map dvLeaf]⟩) else none := rfl
@[go_sem] theorem vopsE_nil (s : VE) : vopsE vc sh base nt [] s = some s := rfl
@[go_sem] theorem vopsE_cons (o : IOper × Nat × Nat × Nat) (os : List (IOper × Nat × Nat × Nat)) (s : VE) : vopsE vc sh base nt (o :: os) s = (vopE vc sh base nt o s).bind (vopsE vc sh base nt os) := rfl
@[go_sem] theorem vopE_0 (d : Option Nat) (op : IOp) (g : Option (Nat × Bool)) (lo hi : Nat) : vopE vc sh base nt (⟨d, op, g⟩, 0, lo, hi) ⟨⟨E, H⟩, H0, hist, ld⟩ =
    vgd E g (if pureOp op = true then (viop vc sh base nt d op E H).map fun r => ⟨⟨vset E d r.1, H⟩, H0, hist, ld⟩ else none) (some ⟨⟨vset E d (.tup []), H⟩, H0, hist, ld⟩) := by
  rw [← vgd_eq]; rfl
@[go_sem] theorem vopE_1 (d : Option Nat) (op : IOp) (g : Option (Nat × Bool)) (lo hi : Nat) : vopE vc sh base nt (⟨d, op, g⟩, 1, lo, hi) ⟨⟨E, H⟩, H0, hist, ld⟩ =
    vgd E g (if loadOp op = true then (viop vc sh base nt d op E H).map fun r => ⟨⟨vset E d r.1, H⟩, H0, hist, vldAdd lo hi (vldB E op) ld⟩ else none) (some ⟨⟨vset E d (.tup []), H⟩, H0, hist, ld⟩) := by
  rw [← vgd_eq]; rfl
@[go_sem] theorem vopE_2 (d : Option Nat) (op : IOp) (g : Option (Nat × Bool)) (lo hi : Nat) : vopE vc sh base nt (⟨d, op, g⟩, 2, lo, hi) ⟨⟨E, H⟩, H0, hist, ld⟩ =
    vgd E g ((viopE vc sh base nt d op E H).map fun r => ⟨⟨vset E d r.1, r.2.getD H⟩, H0, hist ++ [(H, wsOf sh op E)], ld⟩) (some ⟨⟨vset E d (.tup []), H⟩, H0, hist ++ [(H, [])], ld⟩) := by
  rw [← vgd_eq]; rfl
@[go_sem] theorem vopE_3 (d : Nat) (zs : List Value) (lo hi : Nat) : vopE vc sh base nt (⟨some d, .alloc zs, none⟩, 3, lo, hi) ⟨⟨E, H⟩, H0, hist, ld⟩ =
    some ⟨⟨st .bad E d (.mp (base + d) (hg H0 (base + d)).ver 0 0), H⟩, H0, hist, vldAdd 0 hi (some (base + d, (hg H0 (base + d)).ver)) ld⟩ := rfl
@[go_sem] theorem vldAdd_none (lo hi : Nat) : vldAdd lo hi none ld = ld := rfl
@[go_sem] theorem vldAdd_some (lo hi b ver : Nat) : vldAdd lo hi (some (b, ver)) ld = if lo < hi then (b, ver, lo, hi) :: ld else ld := rfl
end
attribute [go_sem] pureOp loadOp vldB wsOf refD refD1 viopE List.flatten_cons List.flatten_nil List.contains_cons List.contains_nil Bool.or_self Bool.and_self
theorem vcallE_pure {P : Prog} {sh : Nat → Bool} {base nt : Nat} {dst : Option Nat} {g : Nat} {args : List DV} {frz : Bool} {H : VHeap} (hs : sh g = false) :
    vcallE (F P sh) sh base nt g args dst frz H = (mapO (frzD H 6) args).bind (vpure P sh base dst g (closedL args) frz H) := by
  unfold vcallE; rw [if_neg (by simp [hs]), vcall_pure hs]
theorem vcallE_sh {P : Prog} {sh : Nat → Bool} {base nt : Nat} {dst : Option Nat} {g : Nat} {args : List DV} {H : VHeap} (hs : sh g = true) :
    vcallE (F P sh) sh base nt g args dst false H = (F P sh g args (keepV H (args.map refD).flatten) (max H.length (base + nt))).map fun r => (r.1, some (mergeV H (args.map refD).flatten r.2)) := by
  unfold vcallE; rw [if_pos hs]; rfl
end Go.Proofs.Cp
