/- The second machine's operations beside the first's: slices. No program in sight. -/
import Derived.Test.YtbgdpdkkbmlhdaaCpVOps1
set_option linter.unusedSimpArgs false
set_option linter.unusedVariables false
namespace Go.Proofs.Cp
open Go
variable {base : Nat} {S0 : Cx} {h0 : Heap} {H0 : VHeap} {pr : Nat → Prop} {S : Cx} {h : Heap} {H : VHeap}

theorem nilS_inv {v : Value} {l c : Nat} (hr : DR S h v (.lit (.slice none l c))) : v = .slice none 0 0 := by
  obtain ⟨rfl, hs⟩ := hr.lit_inv
  simp [scal] at hs
  obtain ⟨rfl, rfl⟩ := hs; rfl
theorem elems_rel (A : Act base S0 h0 H0 pr S h H) {esz : Nat} {x : Value} {d : DV} {X : List (List DV)} (hd : DR S h x d) (he : elems H esz d = some X) :
    ∃ xa c, x = .slice xa X.length c ∧ (∀ el, el ∈ X → el.length = esz) ∧ (X = [] ∨ ∃ a news, xa = some a ∧ ldN h a.block a.off (X.length * esz) = some news ∧ DRs S h news X.flatten) := by
  unfold elems at he
  split at he
  · simp at he; subst he
    exact ⟨none, 0, nilS_inv hd, by simp, .inl rfl⟩
  · rename_i L
    split at he
    · rename_i hall
      simp at he; subst he
      simp only [List.all_eq_true, beq_iff_eq] at hall
      rcases hd.sl_inv with ⟨⟨a, rfl⟩, rfl⟩ | ⟨b, o, e, c, rfl, hc, hst, hu, ro, xs, hx, hle, hrs⟩
      · exact ⟨a, 0, rfl, by simp, .inl rfl⟩
      · refine ⟨_, c, rfl, hall, .inr ⟨_, _, rfl, ?_, hrs⟩⟩
        have hee : L.length * esz = L.length * e := by
          cases L with
          | nil => simp
          | cons el L =>
            have h1 := hall el (by simp)
            have h2 := (hu el (by simp)).1
            rw [← h1, h2]
        rw [hee]; exact ldN_of hx hle
    · simp at he
  · rename_i b ver i l c
    split at he
    · rename_i hesz
      obtain ⟨hl, hv, hne, hlen, hX, hle0, hu, xs, hx, hle, hrs⟩ := A.hx.part he
      obtain ⟨a, rfl, _, _, ha⟩ := hd.ms_inv
      have ha := ha hv
      subst ha
      rw [(A.hx.blk b hl).1] at hesz
      subst hesz
      exact ⟨_, c, by rw [hlen], hu, .inr ⟨_, _, rfl, by rw [hlen]; exact ldN_of hx hle, by rw [hlen] at *; exact hrs⟩⟩
    · simp at he
  · simp at he
theorem vall_one {X : List (List DV)} {vs : List Value} (hG : DRs S h vs X.flatten) (hX : ∀ el, el ∈ X → el.all oneD = true) : vs.all one = true := by
  simp only [List.all_eq_true] at hX ⊢
  intro v hv
  obtain ⟨i, hi, rfl⟩ := List.mem_iff_getElem.1 hv
  have hi2 : i < X.flatten.length := by rw [← hG.1]; exact hi
  refine (hG.2 i _ _ (List.getElem?_eq_getElem hi) (List.getElem?_eq_getElem hi2)).one ?_
  obtain ⟨el, h1, h2⟩ := List.mem_flatten.1 (List.getElem_mem hi2)
  exact hX el h1 _ h2
def appendW (esz bytes : Nat) (h : Heap) (s : Value) (n : Nat) (news : List Value) : Option (Value × Eff) :=
    match s with
    | .slice none 0 0 =>
      if n = 0 then some (s, none)
      else if n * bytes ≤ 140737488355328 ∧ n ≤ 9223372036854775807 ∧ esz ≠ 0 then some (.slice (some ⟨h.length, 0, none⟩) n n, some (h ++ [.cells false esz news], []))
      else none
    | .slice (some a) l c =>
      if l + n ≤ c then
        if n = 0 then some (s, none)
        else (stN h a.block (a.off + l * esz) news).map fun h' => (.slice (some a) (l + n) c, some (h', [a.block]))
      else match h[a.block]? with
        | some (.cells false e xs) =>
          if e = esz ∧ esz ≠ 0 ∧ a.off + l * esz ≤ xs.length ∧ l ≤ c ∧ (l + n) * bytes ≤ 140737488355328 ∧ l + n ≤ 9223372036854775807 ∧ news.all one = true then
            some (.slice (some ⟨h.length, 0, none⟩) (l + n) (l + n),
              some ((h.set a.block .dead) ++ [.cells false esz ((xs.drop a.off).take (l * esz) ++ news)], [a.block]))
          else none
        | _ => none
    | _ => none
theorem appendV_W {esz bytes : Nat} {h : Heap} {s : Value} {n c : Nat} {xa : Option Addr} {news : List Value} (hn : (n = 0 ∧ news = []) ∨ ∃ a, xa = some a ∧ ldN h a.block a.off (n * esz) = some news) :
    appendV esz bytes h s (.slice xa n c) = appendW esz bytes h s n news := by
  rcases hn with ⟨rfl, rfl⟩ | ⟨a, rfl, hn⟩
  · rfl
  · simp only [appendV]
    by_cases h0 : n = 0
    · subst h0
      have : news = [] := List.length_eq_zero_iff.1 (by have := (ldN_ld1 hn).1; simpa using this)
      subst this
      rfl
    · rw [if_neg h0, hn]
      rfl
theorem vappend_rel (A : Act base S0 h0 H0 pr S h H) {esz bytes : Nat} {dst : Option Nat} {s x : Value} {D E d : DV} {ef' : VEff} (hs : DR S h s D) (hx : DR S h x E) (ha : vappend esz bytes base dst H D E = some (d, ef')) :
    ∃ v ef, appendV esz bytes h s x = some (v, ef) ∧ (ef' = none → ef = none) ∧ Out base S0 h0 H0 pr S h v ef d (ef'.getD H) := by
  unfold vappend at ha
  simp only [Option.bind_eq_some_iff] at ha
  obtain ⟨X, hX, ha⟩ := ha
  obtain ⟨xa, xc, rfl, hu, hnews⟩ := elems_rel A hx hX
  have hn : ∃ news, ((X.length = 0 ∧ news = []) ∨ ∃ a, xa = some a ∧ ldN h a.block a.off (X.length * esz) = some news) ∧ DRs S h news X.flatten := by
    rcases hnews with rfl | ⟨a, news, rfl, h1, h2⟩
    · exact ⟨[], .inl (by simp), by simpa using DRs.nil⟩
    · exact ⟨news, .inr ⟨a, rfl, h1⟩, h2⟩
  obtain ⟨news, hn1, hn2⟩ := hn
  have hnl : news.length = X.length * esz := by rw [hn2.1, flat_len hu]
  rw [appendV_W hn1]
  unfold appendW
  split at ha
  · have := nilS_inv hs; subst this
    simp only
    split at ha
    · rename_i h0
      subst h0
      simp at ha; obtain ⟨rfl, rfl⟩ := ha
      refine ⟨_, _, by simp, fun _ => rfl, .quiet A hs⟩
    · rename_i h0
      split at ha
      · rename_i hc
        obtain ⟨c1, c2, c3, c4⟩ := hc
        obtain ⟨id, hid, rfl, rfl⟩ := newB_inv ha
        have hne : X.length ≠ 0 := by cases X <;> simp_all
        rw [if_neg hne, if_pos ⟨c1, c2, c3⟩]
        exact ⟨_, _, rfl, by simp, .newS A hid ⟨.inl hu, hn2⟩ _ _⟩
      · simp at ha
  · rename_i b ver i l c
    obtain ⟨a, rfl, hbn, hle, haa⟩ := hs.ms_inv
    simp only
    split at ha
    · rename_i hlc
      rw [if_pos hlc]
      split at ha
      · rename_i h0
        subst h0
        simp at ha; obtain ⟨rfl, rfl⟩ := ha
        exact ⟨_, _, by simp, fun _ => rfl, .quiet A hs⟩
      · rename_i h0
        have hne : X.length ≠ 0 := by cases X <;> simp_all
        rw [if_neg hne]
        split at ha
        · rename_i he
          simp only [Option.map_eq_some_iff, Prod.mk.injEq] at ha
          obtain ⟨H', hp, rfl, rfl⟩ := ha
          have hlive : (hg H b).live = true := by
            unfold putL at hp
            split at hp
            · rename_i hc; exact hc.1
            · simp at hp
          rw [(A.hx.blk b hlive).1] at he
          subst he
          have hv0 : ver = S.ver b := (putL_rel A hn2 (vall_one hn2) hp (DR.bad (.bool true))).1
          have hd : DR S h (.slice (some a) (l + X.length) c) (.ms b ver i (l + X.length) c) := .ms _ _ _ _ _ _ hbn hle haa
          obtain ⟨_, h', h1, h2⟩ := putL_rel A hn2 (vall_one hn2) hp hd
          have := haa hv0; subst this
          refine ⟨_, _, ?_, by simp, h2⟩
          simp only
          rw [← Nat.add_mul, h1]; rfl
        · simp at ha
    · rename_i hlc
      rw [if_neg hlc]
      split at ha
      · rename_i hc
        obtain ⟨c2, c3, c4, c5, c6, c7⟩ := hc
        simp only [Option.bind_eq_some_iff] at ha
        obtain ⟨L, hL, ha⟩ := ha
        obtain ⟨hl, hv, hne, hlen, hLL, hle0, huL, xs, hxs, hlex, hrs⟩ := A.hx.part hL
        have := haa hv; subst this
        rw [(A.hx.blk b hl).1] at c2
        subst c2
        obtain ⟨hk, hkg⟩ := A.kill hl
        rw [A.hx.ver b, ← hv] at hk
        obtain ⟨id, hid, rfl, rfl⟩ := newB_inv ha
        simp only [hxs]
        simp only [List.all_eq_true, Bool.and_eq_true, beq_iff_eq] at c7
        have hone : news.all one = true := vall_one hn2 fun el hel => List.all_eq_true.2 (c7 el hel).2
        rw [if_pos (by exact ⟨trivial, c3, by omega, c4, c5, c6, hone⟩)]
        refine ⟨_, _, rfl, by simp, ?_⟩
        have hbr : BR S h (S.e b) (L ++ X) ((xs.drop (i * S.e b)).take (l * S.e b) ++ news) := by
          refine ⟨.inl fun el hel => ?_, ?_⟩
          · simp only [List.mem_append] at hel
            rcases hel with h | h
            · exact huL el h
            · exact hu el h
          · rw [List.flatten_append]; exact hrs.append hn2
        have ho := Out.newS hk hid (hbr.mono (.kill S b) hkg) (l + X.length) (l + X.length)
        rw [List.length_set] at ho
        obtain ⟨⟨S', o1, o2, o3, o4⟩, o5⟩ := ho
        refine ⟨⟨S', o1, (CxE.kill S b).trans o2, hkg.trans (.kill S b) o3, o4⟩, fun h2 w he => ?_⟩
        simp at he; obtain ⟨_, rfl⟩ := he
        intro x hx; simp at hx; subst hx
        exact (A.hx.blk b hl).2.1
      · simp at ha
  · simp at ha
theorem vcopy_rel (A : Act base S0 h0 H0 pr S h H) {esz : Nat} {s x : Value} {D E d : DV} {ef' : VEff} (hs : DR S h s D) (hx : DR S h x E) (ha : vcopy esz H D E = some (d, ef')) :
    ∃ v ef, copyV esz h s x = some (v, ef) ∧ (ef' = none → ef = none) ∧ Out base S0 h0 H0 pr S h v ef d (ef'.getD H) := by
  unfold vcopy at ha
  simp only [Option.bind_eq_some_iff] at ha
  obtain ⟨X, hX, ha⟩ := ha
  obtain ⟨xa, xc, rfl, hu, hnews⟩ := elems_rel A hx hX
  split at ha
  · have := nilS_inv hs; subst this
    simp at ha; obtain ⟨rfl, rfl⟩ := ha
    exact ⟨_, _, by simp [copyV], fun _ => rfl, .quiet A (.lit _ rfl)⟩
  · rename_i b ver i l c
    obtain ⟨a, rfl, hbn, hle, haa⟩ := hs.ms_inv
    simp only [copyV]
    split at ha
    · rename_i h0
      simp at ha; obtain ⟨rfl, rfl⟩ := ha
      have : min X.length l = 0 := by
        have := congrArg List.length h0
        rw [List.length_take, List.length_nil] at this; omega
      rw [if_pos this]
      exact ⟨_, _, rfl, fun _ => rfl, .quiet A (.lit _ rfl)⟩
    · rename_i h0
      have hmin : (X.take l).length = min X.length l := by simp; omega
      have hne : min X.length l ≠ 0 := by
        intro e; rw [← hmin] at e
        exact h0 (List.length_eq_zero_iff.1 e)
      rw [if_neg hne]
      split at ha
      · rename_i he
        simp only [Option.map_eq_some_iff, Prod.mk.injEq] at ha
        obtain ⟨H', hp, rfl, rfl⟩ := ha
        rcases hnews with rfl | ⟨y, news, rfl, h1, h2⟩
        · simp at hne
        · have hlive : (hg H b).live = true := by
            unfold putL at hp
            split at hp
            · rename_i hc; exact hc.1
            · simp at hp
          rw [(A.hx.blk b hlive).1] at he
          subst he
          have hrel : DRs S h (news.take (min X.length l * S.e b)) (X.take l).flatten := by
            rw [take_flat l hu]
            have hF := flat_len hu
            have : X.flatten.take (l * S.e b) = X.flatten.take (min X.length l * S.e b) := by
              rcases Nat.le_total X.length l with h | h
              · rw [Nat.min_eq_left h, List.take_of_length_le (by rw [hF]; exact Nat.mul_le_mul_right _ h), List.take_of_length_le (by omega)]
              · rw [Nat.min_eq_right h]
            rw [this]; exact h2.take _
          have hld : ldN h y.block y.off (min X.length l * S.e b) = some (news.take (min X.length l * S.e b)) := by
            unfold ldN at h1 ⊢
            split at h1
            · rename_i hb
              split at h1
              · rename_i hle2
                have hm : min X.length l * S.e b ≤ X.length * S.e b := Nat.mul_le_mul_right _ (Nat.min_le_left _ _)
                simp at h1; subst h1
                rw [if_pos (by omega), List.take_take, Nat.min_eq_left hm]
              · simp at h1
            · simp at h1
          have hv0 : ver = S.ver b := (putL_rel A hrel (vall_one hrel) hp (DR.bad (.bool true))).1
          have := haa hv0; subst this
          have hd : DR S h (.int .i64 (min X.length l : Nat)) (.lit (.int .i64 ((X.take l).length : Nat))) := by rw [hmin]; exact .lit _ rfl
          obtain ⟨_, h', h3, h4⟩ := putL_rel A hrel (vall_one hrel) hp hd
          refine ⟨_, _, ?_, by simp, h4⟩
          simp only [hld, Option.bind_some, h3, Option.map_some]
      · simp at ha
  · simp at ha
theorem vclear_rel (A : Act base S0 h0 H0 pr S h H) {zs : List Value} {s : Value} {D d : DV} {ef' : VEff} (hs : DR S h s D) (ha : vclear zs H D = some (d, ef')) :
    ∃ v ef, clearV zs h s = some (v, ef) ∧ (ef' = none → ef = none) ∧ Out base S0 h0 H0 pr S h v ef d (ef'.getD H) := by
  have ht : DR S h (.tuple #[]) (.tup []) := .tup #[] [] rfl (fun i v d h => by simp at h)
  unfold vclear at ha
  split at ha
  · have := nilS_inv hs; subst this
    simp at ha; obtain ⟨rfl, rfl⟩ := ha
    exact ⟨_, _, by simp [clearV], fun _ => rfl, .quiet A ht⟩
  · rename_i b ver i l c
    obtain ⟨a, rfl, hbn, hle, haa⟩ := hs.ms_inv
    simp only [clearV]
    split at ha
    · rename_i h0
      subst h0
      simp at ha; obtain ⟨rfl, rfl⟩ := ha
      exact ⟨_, _, by simp, fun _ => rfl, .quiet A ht⟩
    · rename_i h0
      rw [if_neg h0]
      split at ha
      · rename_i he
        simp only [Option.map_eq_some_iff, Prod.mk.injEq] at ha
        obtain ⟨H', hp, rfl, rfl⟩ := ha
        have hrel := zeros_rel (S := S) (h := h) zs l
        have hv0 : ver = S.ver b := (putL_rel A hrel (vall_one hrel) hp (DR.bad (.bool true))).1
        have := haa hv0; subst this
        obtain ⟨_, h', h3, h4⟩ := putL_rel A hrel (vall_one hrel) hp ht
        refine ⟨_, _, ?_, by simp, h4⟩
        simp only
        rw [h3]; rfl
      · simp at ha
  · simp at ha
theorem sliceV_eq {esz : Nat} {h : Heap} {b : Option Addr} {l c : Nat} {a z : Int} {lo hi : Option Value} (hl : (lo = none ∧ a = (0 : Nat)) ∨ ∃ k, lo = some (.int k a)) (hh : (hi = none ∧ z = (l : Nat)) ∨ ∃ k, hi = some (.int k z))
    (h0 : 0 ≤ a) (h1 : a ≤ z) (h2 : z ≤ c) :
      sliceV esz h b l c lo hi = (match b with
        | none => some (.slice none (z.toNat - a.toNat) (c - a.toNat))
        | some p => if a.toNat = 0 then some (.slice (some ⟨p.block, p.off, none⟩) z.toNat c) else match h[p.block]? with
          | some (.cells _ e _) => if e = esz then some (.slice (some ⟨p.block, p.off + a.toNat * esz, none⟩) (z.toNat - a.toNat) (c - a.toNat)) else none
          | _ => none) := by
  have i1 : 0 ≤ z ∧ z ≤ (c : Int) := ⟨by omega, h2⟩
  have i2 : 0 ≤ a ∧ a ≤ (z.toNat : Int) := ⟨h0, by omega⟩
  rcases hl with ⟨rfl, rfl⟩ | ⟨k, rfl⟩ <;> rcases hh with ⟨rfl, rfl⟩ | ⟨k', rfl⟩ <;> simp only [sliceV, if_pos i1, if_pos i2, Option.bind_some, Int.toNat_natCast] <;> cases b <;> first | rfl | skip
  all_goals
    simp only [Int.toNat_natCast] at i1 i2 ⊢
    rw [if_pos i2]
    rfl
theorem vslice_rel (A : Act base S0 h0 H0 pr S h H) {esz : Nat} {v : Value} {D d : DV} {lo hi : Option Value} {Lo Hi : Option DV} (hs : DR S h v D)
    (hlo : (lo = none ∧ Lo = none) ∨ ∃ x X, lo = some x ∧ Lo = some X ∧ DR S h x X) (hhi : (hi = none ∧ Hi = none) ∨ ∃ x X, hi = some x ∧ Hi = some X ∧ DR S h x X) (ha : vslice esz H D Lo Hi = some d) :
    ∃ b l c w, v = .slice b l c ∧ sliceV esz h b l c lo hi = some w ∧ DR S h w d := by
  have hw : ∀ (o : Option Value) (O : Option DV) (dft : Nat) (j : Int), ((o = none ∧ O = none) ∨ ∃ x X, o = some x ∧ O = some X ∧ DR S h x X) →
      (match O with
        | none => some (dft : Int)
        | some (.lit (.int _ j)) => some j
        | some _ => none) = some j → (o = none ∧ j = dft) ∨ ∃ k, o = some (.int k j) := by
    rintro o O dft j (⟨rfl, rfl⟩ | ⟨x, X, rfl, rfl, hd⟩) hj
    · left; simp at hj; exact ⟨rfl, hj.symm⟩
    · right
      split at hj
      · rename_i h; simp at h
      · rename_i k j' h
        simp at h hj; subst h; subst hj
        exact ⟨k, by rw [hd.int_inv]⟩
      · simp at hj
  unfold vslice at ha
  simp only at ha
  split at ha
  · simp only [Option.bind_eq_some_iff] at ha
    obtain ⟨a, h1, z, h2, ha⟩ := ha
    split at ha
    · rename_i hc
      obtain ⟨rfl, rfl⟩ := hc
      simp at ha; subst ha
      have := nilS_inv hs; subst this
      refine ⟨none, 0, 0, _, rfl, sliceV_eq (hw lo Lo 0 0 hlo h1) (hw hi Hi 0 0 hhi h2) (by omega) (by omega) (by omega), ?_⟩
      exact .lit _ rfl
    · simp at ha
  · rename_i L
    simp only [Option.bind_eq_some_iff] at ha
    obtain ⟨a, h1, z, h2, ha⟩ := ha
    split at ha
    · rename_i hc
      obtain ⟨c1, c2, c3, c4⟩ := hc
      simp at ha; subst ha
      simp only [List.all_eq_true, beq_iff_eq] at c4
      have k1 := hw lo Lo 0 a hlo h1
      have k2 := hw hi Hi L.length z hhi h2
      rcases hs.sl_inv with ⟨⟨xa, rfl⟩, rfl⟩ | ⟨b, o, e, c, rfl, hcc, hst, hu, ro, xs, hx, hle, hrs⟩
      · simp at c3
        have ha0 : a.toNat = 0 := by omega
        have hz0 : z.toNat = 0 := by omega
        have hm := sliceV_eq (esz := esz) (h := h) (b := xa) (c := 0) k1 k2 c1 c2 (by omega)
        cases xa with
        | none =>
          simp only [ha0, hz0] at hm
          refine ⟨none, 0, 0, _, rfl, hm, ?_⟩
          simp
          exact .slnil
        | some p =>
          simp only [ha0, hz0, ↓reduceIte] at hm
          refine ⟨some p, 0, 0, _, rfl, hm, ?_⟩
          simp
          exact .sl0 _
      · have hlen : ((L.drop a.toNat).take (z.toNat - a.toNat)).length = z.toNat - a.toNat := by simp; omega
        have hm := sliceV_eq (esz := esz) (h := h) (b := some ⟨b, o, none⟩) (c := c) k1 k2 c1 c2 (by omega)
        have hsub : ∀ el, el ∈ (L.drop a.toNat).take (z.toNat - a.toNat) → el.length = e ∧ closedL el = true := fun el hel => hu el (List.mem_of_mem_drop (List.mem_of_mem_take hel))
        have hbound : o + a.toNat * e + (z.toNat - a.toNat) * e ≤ xs.length := by
          have : (a.toNat + (z.toNat - a.toNat)) * e ≤ L.length * e := Nat.mul_le_mul_right _ (by omega)
          rw [Nat.add_mul] at this; omega
        have hrs2 : DRs S h ((xs.drop (o + a.toNat * e)).take ((z.toNat - a.toNat) * e)) ((L.drop a.toNat).take (z.toNat - a.toNat)).flatten := by
          rw [take_flat _ (fun el hel => (hu el (List.mem_of_mem_drop hel)).1), drop_flat _ (fun el hel => (hu el hel).1)]
          have := (hrs.drop (a.toNat * e)).take ((z.toNat - a.toNat) * e)
          rw [List.drop_take, List.drop_drop, List.take_take] at this
          rw [Nat.min_eq_left] at this
          · exact this
          · have : (a.toNat + (z.toNat - a.toNat)) * e ≤ L.length * e := Nat.mul_le_mul_right _ (by omega)
            rw [Nat.add_mul] at this; omega
        refine ⟨some ⟨b, o, none⟩, L.length, c, ?_⟩
        by_cases ha0 : a.toNat = 0
        · simp only [ha0, ↓reduceIte, Nat.sub_zero] at hm
          refine ⟨_, rfl, hm, ?_⟩
          rw [ha0] at hsub hrs2 hlen hbound
          simp only [Nat.sub_zero, Nat.zero_mul, Nat.add_zero] at hsub hrs2 hlen hbound
          rw [ha0, Nat.sub_zero]
          have := DR.sl_mk (c := c) hst (by rw [hlen]; omega) hsub hx (by rw [hlen]; exact hbound) (by rw [hlen]; exact hrs2)
          rw [hlen] at this
          exact this
        · have hne : L ≠ [] := by intro e; subst e; simp at c3; omega
          have hee : e = esz := by
            cases L with
            | nil => exact absurd rfl hne
            | cons el L => rw [← (hu el (by simp)).1]; exact c4 el (by simp)
          simp only [ha0, ↓reduceIte, hx, hee] at hm
          refine ⟨_, rfl, hm, ?_⟩
          have := DR.sl_mk (c := c - a.toNat) hst (by rw [hlen]; omega) hsub hx (by rw [hlen]; exact hbound) (by rw [hlen]; exact hrs2)
          rw [hlen, hee] at this
          exact this
    · simp at ha
  · rename_i m ver i l c
    simp only [Option.bind_eq_some_iff] at ha
    obtain ⟨a, h1, z, h2, ha⟩ := ha
    split at ha
    · rename_i hc
      obtain ⟨c1, c2, c3, c4, c5, c6⟩ := hc
      simp at ha; subst ha
      obtain ⟨p, rfl, hbn, hle, hp⟩ := hs.ms_inv
      have hp := hp (by rw [← A.hx.ver m]; exact c5.symm)
      obtain ⟨b1, b2, xs, b3, b4⟩ := A.hx.blk m c4
      have k1 := hw lo Lo 0 a hlo h1
      have k2 := hw hi Hi l z hhi h2
      have hm := sliceV_eq (esz := esz) (h := h) (b := some p) k1 k2 c1 c2 c3
      subst hp
      have he : S.e m = esz := by rw [← b1]; exact c6
      subst he
      refine ⟨some ⟨S.j m, i * S.e m, none⟩, l, c, ?_⟩
      by_cases ha0 : a.toNat = 0
      · simp only [ha0, ↓reduceIte] at hm
        refine ⟨_, rfl, hm, ?_⟩
        rw [ha0]
        simp only [Nat.add_zero, Nat.sub_zero]
        exact .ms _ _ _ _ _ _ hbn hle (fun _ => rfl)
      · simp only [ha0, ↓reduceIte, b3] at hm
        refine ⟨_, rfl, hm, ?_⟩
        exact .ms _ _ _ _ _ _ hbn hle (fun _ => by rw [Nat.add_mul])
    · simp at ha
  · simp at ha
end Go.Proofs.Cp
