/- The second machine's operations beside the first's: parts. No program in sight. -/
import Derived.Test.YtbgdpdkkbmlhdaaCpVAct
set_option linter.unusedSimpArgs false
set_option linter.unusedVariables false
namespace Go.Proofs.Cp
open Go
variable {base : Nat} {S0 : Cx} {h0 : Heap} {H0 : VHeap} {pr : Nat → Prop} {S : Cx} {h : Heap} {H : VHeap}

theorem binI_scal {op : BinOp} {k : IntKind} {a b : Int} {v : Value} (hb : binI op k a b = some v) : scal v = true := by
  unfold binI at hb
  split at hb <;> first | (simp at hb; subst hb; rfl) | (split at hb <;> first | (simp at hb; done) | (simp at hb; subst hb; rfl)) | simp at hb
theorem shI_scal {op : BinOp} {k : IntKind} {a b : Int} {v : Value} (hb : shI op k a b = some v) : scal v = true := by
  unfold shI at hb
  split at hb
  · simp at hb
  · split at hb <;> first | (simp at hb; subst hb; rfl) | simp at hb
theorem bin_scal {op : BinOp} {x y v : Value} (hb : bin op x y = some v) : scal v = true := by
  unfold bin at hb
  split at hb
  · split at hb
    · exact shI_scal hb
    · exact shI_scal hb
    · split at hb
      · exact binI_scal hb
      · simp at hb
  · simp at hb
theorem unV_scal {op : UnOp} {x v : Value} (hb : unV op x = some v) : scal v = true := by
  unfold unV at hb
  split at hb <;> first | (simp at hb; subst hb; rfl) | simp at hb
theorem veqsL_rel {vs ws : List Value} {ds es : List DV} (h1 : DRs S h vs ds) (h2 : DRs S h ws es) : ∀ {fs : List (Nat × Bool)} {b : Bool}, veqsL ds es fs = some b → eqsL vs ws fs = some b
  | [], b, hb => by simpa [veqsL, eqsL] using hb
  | o :: fs, b, hb => by
    simp only [veqsL] at hb
    split at hb
    · rename_i x y hx hy
      obtain ⟨v, hv, hd⟩ := h1.get hx
      obtain ⟨w, hw, hd2⟩ := h2.get hy
      obtain ⟨rfl, _⟩ := hd.lit_inv
      obtain ⟨rfl, _⟩ := hd2.lit_inv
      simp only [eqsL, hv, hw]
      split at hb
      · rename_i hl; rw [hl]; exact veqsL_rel h1 h2 hb
      · rename_i hl; rw [hl]; exact hb
      · simp at hb
    · simp at hb
theorem vmm_rel {mx : Bool} : ∀ {ys : List Value} {Ys : List DV} {x : Value} {X d : DV}, DR S h x X → DRs S h ys Ys → vmm mx X Ys = some d → ∃ v, mmL mx x ys = some v ∧ DR S h v d
  | [], [], x, X, d, hx, _, hd => by simp [vmm] at hd; subst hd; exact ⟨x, rfl, hx⟩
  | [], Y :: Ys, x, X, d, _, hs, _ => by have := hs.1; simp at this
  | y :: ys, [], x, X, d, _, hs, _ => by have := hs.1; simp at this
  | y :: ys, Y :: Ys, x, X, d, hx, hs, hd => by
    simp only [vmm] at hd
    split at hd
    · rename_i a b
      obtain ⟨rfl, _⟩ := hx.lit_inv
      obtain ⟨rfl, _⟩ := hs.head.lit_inv
      simp only [Option.bind_eq_some_iff] at hd
      obtain ⟨w, hw, hd⟩ := hd
      have hs2 : scal w = true := by
        unfold mm at hw
        split at hw
        · simp at hw; subst hw; rfl
        · simp at hw
      obtain ⟨v, h1, h2⟩ := vmm_rel (.lit w hs2) hs.tail hd
      exact ⟨v, by simp [mmL, hw, h1], h2⟩
    · simp at hd

/-! ### Lists side by side -/
theorem put_len {xs vs : List Value} {o : Nat} (hle : o + vs.length ≤ xs.length) : (put xs o vs).length = xs.length := by simp [put]; omega
theorem put_rel {P : Nat → Value → DV → Prop} {xs vs : List Value} {F G : List DV} {o : Nat} (hl : xs.length = F.length) (hl2 : vs.length = G.length) (hle : o + vs.length ≤ xs.length)
    (h1 : ∀ (i : Nat) (v : Value) (d : DV), xs[i]? = some v → F[i]? = some d → P i v d) (h2 : ∀ (i : Nat) (v : Value) (d : DV), vs[i]? = some v → G[i]? = some d → ∀ j, P j v d) :
    (put xs o vs).length = (F.take o ++ G ++ F.drop (o + G.length)).length ∧ ∀ (i : Nat) (v : Value) (d : DV), (put xs o vs)[i]? = some v → (F.take o ++ G ++ F.drop (o + G.length))[i]? = some d → P i v d := by
  refine ⟨by simp [put]; omega, fun i v d h3 h4 => ?_⟩
  unfold put at h3
  rw [List.append_assoc] at h3 h4
  rw [hl2] at h3
  by_cases ha : i < o
  · rw [List.getElem?_append_left (by simp; omega), List.getElem?_take, if_pos ha] at h3
    rw [List.getElem?_append_left (by simp; omega), List.getElem?_take, if_pos ha] at h4
    exact h1 i v d h3 h4
  · rw [List.getElem?_append_right (by simp; omega)] at h3 h4
    have e1 : (xs.take o).length = o := by simp; omega
    have e2 : (F.take o).length = o := by simp; omega
    rw [e1] at h3; rw [e2] at h4
    by_cases hb : i - o < G.length
    · rw [List.getElem?_append_left (by omega)] at h3
      rw [List.getElem?_append_left (by omega)] at h4
      exact h2 _ v d h3 h4 i
    · rw [List.getElem?_append_right (by omega), List.getElem?_drop] at h3
      rw [List.getElem?_append_right (by omega), List.getElem?_drop] at h4
      rw [hl2] at h3
      have : o + G.length + (i - o - G.length) = i := by omega
      rw [this] at h3 h4
      exact h1 _ v d h3 h4
theorem vfill_rel : ∀ {ps : List (Nat × Nat × Value)} {Ps : List (Nat × Nat × DV)} {zs : List Value} {Z C : List DV}, DRs S h zs Z → ps.length = Ps.length →
    (∀ (i : Nat) (p : Nat × Nat × Value) (q : Nat × Nat × DV), ps[i]? = some p → Ps[i]? = some q → p.1 = q.1 ∧ p.2.1 = q.2.1 ∧ DR S h p.2.2 q.2.2) → vfill Z Ps = some C → ∃ cs, fill zs ps = some cs ∧ DRs S h cs C
  | [], [], zs, Z, C, hz, _, _, hf => by simp [vfill] at hf; subst hf; exact ⟨zs, rfl, hz⟩
  | [], _ :: _, zs, Z, C, _, hl, _, _ => by simp at hl
  | _ :: _, [], zs, Z, C, _, hl, _, _ => by simp at hl
  | (po, pn, pv) :: ps, (qo, qn, qv) :: Ps, zs, Z, C, hz, hl, hr, hf => by
    obtain ⟨h1, h2, h3⟩ := hr 0 _ _ rfl rfl
    simp only at h1 h2 h3
    subst h1; subst h2
    simp only [vfill] at hf
    split at hf
    · rename_i hc
      obtain ⟨c1, c2, c3⟩ := hc
      obtain ⟨h4, _⟩ := cells_rel h3 c3
      have hs : pv.cells.size = pn := by rw [← c1, ← h4.1]; simp
      have hle : po + pn ≤ zs.length := by rw [hz.1]; exact c2
      have hp := put_rel (P := fun _ => DR S h) (o := po) hz.1 h4.1 (by rw [h4.1, c1]; exact hle) hz.2 (fun i v d a b _ => h4.2 i v d a b)
      rw [c1] at hp
      obtain ⟨cs, h5, h6⟩ := vfill_rel (ps := ps) (Ps := Ps) ⟨hp.1, hp.2⟩ (by simpa using hl) (fun i p q hp hq => hr (i + 1) p q (by simpa using hp) (by simpa using hq)) hf
      exact ⟨cs, by simp only [fill, hs, hle, and_self, ↓reduceIte]; exact h5, h6⟩
    · simp at hf
theorem vPs_rel {e : Env} {E : List DV} (hE : ERel S h e E) (ps : List (Nat × Nat × Opd)) : (evPs e ps).length = (vPs E ps).length ∧ ∀ (i : Nat) (p : Nat × Nat × Value) (q : Nat × Nat × DV), (evPs e ps)[i]? = some p → (vPs E ps)[i]? = some q → p.1 = q.1 ∧ p.2.1 = q.2.1 ∧ DR S h p.2.2 q.2.2 := by
  refine ⟨by simp [evPs, vPs], fun i p q h1 h2 => ?_⟩
  simp only [evPs, vPs, List.getElem?_map, Option.map_eq_some_iff] at h1 h2
  obtain ⟨x, h1, rfl⟩ := h1
  obtain ⟨y, h2, rfl⟩ := h2
  rw [h1] at h2; simp at h2; subst h2
  exact ⟨rfl, rfl, hE.ev _⟩
theorem chunks_flat {e : Nat} : ∀ {n : Nat} {l : List DV}, l.length = e * n → (chunks e n l).flatten = l ∧ (chunks e n l).length = n ∧ ∀ el, el ∈ chunks e n l → el.length = e
  | 0, l, h => by simp at h; subst h; simp [chunks]
  | n + 1, l, h => by
    rw [Nat.mul_add, Nat.mul_one] at h
    obtain ⟨h1, h2, h3⟩ := chunks_flat (e := e) (n := n) (l := l.drop e) (by simp; omega)
    refine ⟨by simp [chunks, h1], by simp [chunks, h2], fun el hel => ?_⟩
    simp only [chunks, List.mem_cons] at hel
    rcases hel with rfl | hel
    · simp; omega
    · exact h3 el hel
theorem flat_rep {zs : List Value} : ∀ (n i : Nat), i < n * zs.length → (List.replicate n zs).flatten[i]? = zs[i % zs.length]?
  | 0, i, h => by simp at h
  | n + 1, i, h => by
    rw [Nat.add_mul, Nat.one_mul] at h
    rw [List.replicate_succ, List.flatten_cons]
    by_cases hi : i < zs.length
    · rw [List.getElem?_append_left hi, Nat.mod_eq_of_lt hi]
    · rw [List.getElem?_append_right (by omega), flat_rep n _ (by omega), Nat.mod_eq_sub_mod (a := i) (b := zs.length) (by omega)]
theorem zerosN_flat {zs : List Value} (n : Nat) : zerosN zs n = (List.replicate n zs).flatten := by
  unfold zerosN
  split
  · simp
  · have hlen : (List.replicate n zs).flatten.length = n * zs.length := by simp
    apply List.ext_getElem?
    intro i
    by_cases hi : i < n * zs.length
    · rw [flat_rep n i hi, List.getElem?_map, List.getElem?_range hi]
      have hm : i % zs.length < zs.length := Nat.mod_lt _ (by rcases Nat.eq_zero_or_pos zs.length with h | h; · rw [h] at hi; simp at hi
                                                              · exact h)
      simp [List.getElem?_eq_getElem hm]
    · rw [List.getElem?_eq_none (by simp; omega), List.getElem?_eq_none (by omega)]
theorem zeros_rel (zs : List Value) (n : Nat) : DRs S h (zerosN zs n) (List.replicate n (zs.map dvLeaf)).flatten := by
  have : (List.replicate n (zs.map dvLeaf)).flatten = ((List.replicate n zs).flatten).map dvLeaf := by simp
  rw [zerosN_flat, this]
  exact dvLeafs_rel _

/-! ### New blocks and writes -/
theorem newB_inv {dst : Option Nat} {e : Nat} {L : List (List DV)} {mk : Nat → Nat → DV} {d : DV} {ef : VEff} (hn : newB base dst H e L mk = some (d, ef)) :
    ∃ id, base ≤ id ∧ d = mk id ((hg H id).ver + 1) ∧ ef = some (hs H id ⟨(hg H id).ver + 1, e, true, L⟩) := by
  unfold newB at hn
  simp only [Option.map_eq_some_iff, Prod.mk.injEq] at hn
  obtain ⟨t, _, h1, h2⟩ := hn
  exact ⟨base + t, by omega, h1.symm, h2.symm⟩
theorem stN_of {b e o : Nat} {xs vs : List Value} (hb : h[b]? = some (.cells false e xs)) (hle : o + vs.length ≤ xs.length) (h1 : vs.all one = true) : stN h b o vs = some (h.set b (.cells false e (put xs o vs))) := by
  unfold stN; rw [hb]; simp only [hle, h1, and_self, ↓reduceIte]
theorem Act.store (A : Act base S0 h0 H0 pr S h H) {b o : Nat} (hl : (hg H b).live = true) {L : List (List DV)} {G : List DV} {vs : List Value} (hG : DRs S h vs G) (h1 : vs.all one = true) (hle : o + G.length ≤ (hg H b).L.flatten.length)
    (hok : flatOk (S.e b) L) (hf : L.flatten = (hg H b).L.flatten.take o ++ G ++ (hg H b).L.flatten.drop (o + G.length)) {v : Value} {d : DV} (hd : DR S h v d) :
    ∃ h', stN h (S.j b) o vs = some h' ∧ Out base S0 h0 H0 pr S h v (some (h', [S.j b])) d (hs H b { hg H b with L := L }) := by
  obtain ⟨k1, k2, xs, k3, k4⟩ := A.hx.blk b hl
  have hle' : o + vs.length ≤ xs.length := by rw [hG.1, k4.rs.1]; exact hle
  refine ⟨_, stN_of k3 hle' h1, ?_⟩
  have hp := put_rel (P := fun _ => DR S h) k4.rs.1 hG.1 hle' k4.rs.2 (fun i v d a b _ => hG.2 i v d a b)
  rw [← hf] at hp
  exact Out.write A hl ⟨hok, hp⟩ hd
theorem putE_rel (A : Act base S0 h0 H0 pr S h H) {b ver i k : Nat} {G : List DV} {vs : List Value} (hG : DRs S h vs G) (h1 : vs.all one = true) {H' : VHeap} (hp : putE H b ver i k G = some H') {v : Value} {d : DV} (hd : DR S h v d) :
    ver = S.ver b ∧ ∃ h', stN h (S.j b) (i * S.e b + k) vs = some h' ∧ Out base S0 h0 H0 pr S h v (some (h', [S.j b])) d H' := by
  unfold putE at hp
  split at hp
  · rename_i el hel
    split at hp
    · rename_i hc
      obtain ⟨c1, c2⟩ := hc
      simp at hp; subst hp
      obtain ⟨hl, hv, hi, _⟩ := A.hx.at_ hel
      obtain ⟨k1, k2, xs, k3, k4⟩ := A.hx.blk b hl
      obtain ⟨X, C, hf, hX, hset⟩ := flat_split k4.ok hi
      refine ⟨hv, A.store hl hG h1 ?_ ?_ ?_ hd⟩
      · rw [hf]; simp; omega
      · rcases k4.ok with hu | ⟨he, x, hx⟩
        · left
          intro y hy
          obtain ⟨q, hq, rfl⟩ := List.mem_iff_getElem.1 hy
          rw [List.getElem_set]
          split
          · have := hu el (List.mem_of_getElem? hi)
            simp; omega
          · exact hu _ (List.getElem_mem _)
        · right
          have hi0 : i = 0 := by
            have := (List.getElem?_eq_some_iff.1 hi).1
            rw [hx] at this; simp at this; exact this
          subst hi0
          exact ⟨he, _, by rw [hx]; rfl⟩
      · rw [hset, hf, ← hX]
        simp only [List.append_assoc]
        rw [List.take_length_add_append, show X.length + k + G.length = X.length + (k + G.length) from by omega, List.drop_length_add_append]
        rw [List.take_append_of_le_length (by omega), List.drop_append_of_le_length (by omega)]
        simp only [List.append_assoc]
    · simp at hp
  · simp at hp
theorem putL_rel (A : Act base S0 h0 H0 pr S h H) {b ver i : Nat} {X : List (List DV)} {vs : List Value} (hG : DRs S h vs X.flatten) (h1 : (∀ el, el ∈ X → el.all oneD = true) → vs.all one = true) {H' : VHeap} (hp : putL H b ver i X = some H') {v : Value} {d : DV} (hd : DR S h v d) :
    ver = S.ver b ∧ ∃ h', stN h (S.j b) (i * S.e b) vs = some h' ∧ Out base S0 h0 H0 pr S h v (some (h', [S.j b])) d H' := by
  unfold putL at hp
  split at hp
  · rename_i hc
    obtain ⟨hl, hv, he, hle, hall⟩ := hc
    simp at hp; subst hp
    obtain ⟨k1, k2, xs, k3, k4⟩ := A.hx.blk b hl
    rw [k1] at he hall
    have hu : ∀ el, el ∈ (hg H b).L → el.length = S.e b := by
      rcases k4.ok with hu | ⟨h, _⟩
      · exact hu
      · exact absurd h he
    simp only [List.all_eq_true, Bool.and_eq_true, beq_iff_eq] at hall
    have hX : ∀ el, el ∈ X → el.length = S.e b := fun el h => (hall el h).1
    have hXl := flat_len hX
    have hF := flat_len hu
    refine ⟨by rw [← A.hx.ver]; exact hv.symm, A.store hl hG (h1 fun el h => List.all_eq_true.2 (hall el h).2) ?_ ?_ ?_ hd⟩
    · rw [hXl, hF, ← Nat.add_mul]; exact Nat.mul_le_mul_right _ hle
    · left
      intro el hel
      simp only [List.mem_append] at hel
      rcases hel with h | h | h
      · exact hu el (List.mem_of_mem_take h)
      · exact hX el h
      · exact hu el (List.mem_of_mem_drop h)
    · rw [List.flatten_append, List.flatten_append, take_flat _ hu, drop_flat _ hu, hXl, Nat.add_mul]
      simp only [List.append_assoc]
  · simp at hp
end Go.Proofs.Cp
