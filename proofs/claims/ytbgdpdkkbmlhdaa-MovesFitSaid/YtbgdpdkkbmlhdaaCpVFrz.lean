/- What is seen of a value by one that can't write. No program in sight. -/
import Derived.Test.YtbgdpdkkbmlhdaaCpVOps
set_option linter.unusedSimpArgs false
set_option linter.unusedVariables false
namespace Go.Proofs.Cp
open Go
variable {pr : Nat → Prop} {S S' : Cx} {h h' : Heap} {H : VHeap}

/-- What holds of a value and of all that it leads to. -/
structure Heir (H : VHeap) (T : DV → Prop) : Prop where
  agg : ∀ l, T (.agg l) → ∀ d, d ∈ l → T d
  tup : ∀ l, T (.tup l) → ∀ d, d ∈ l → T d
  fn : ∀ f l, T (.fn f l) → ∀ d, d ∈ l → T d
  mp : ∀ b ver i k el, T (.mp b ver i k) → (hg H b).at_ ver i = some el → ∀ d, d ∈ el → T d
  ms : ∀ b ver i l c X, T (.ms b ver i l c) → (hg H b).part ver i l = some X → ∀ el, el ∈ X → ∀ d, d ∈ el → T d
theorem Heir.all (H : VHeap) : Heir H (fun _ => True) := ⟨fun _ _ _ _ => trivial, fun _ _ _ _ => trivial, fun _ _ _ _ _ => trivial, fun _ _ _ _ _ _ _ _ _ => trivial, fun _ _ _ _ _ _ _ _ _ _ _ _ => trivial⟩
theorem Heir.fresh (H : VHeap) : Heir H (fun d => ∃ m, freshD H m d = true) := by
  refine ⟨fun l h d hd => ?_, fun l h d hd => ?_, fun f l h d hd => ?_, fun b ver i k el h hel d hd => ?_, fun b ver i l c X h hX el hel d hd => ?_⟩ <;> obtain ⟨m, h⟩ := h <;> cases m with
  | zero => simp [freshD] at h
  | succ m => ?_
  · simp only [freshD, List.all_eq_true] at h; exact ⟨m, h d hd⟩
  · simp only [freshD, List.all_eq_true] at h; exact ⟨m, h d hd⟩
  · simp [freshD] at h
  · simp [freshD] at h
  · simp only [freshD, hX, List.all_eq_true] at h; exact ⟨m, h el hel d hd⟩
theorem fresh_lit {H : VHeap} : ∀ {m : Nat} {d : DV} {v : Value}, freshD H m d = true → closedD d = true → DR S h v d → DR S' h' v d
  | 0, d, v, h1, _, _ => by simp [freshD] at h1
  | m + 1, d, v, h1, h2, hr => by
    cases hr with
    | bad v => simp [freshD] at h1
    | lit v hs => exact .lit v hs
    | agg cs l hl hr =>
      simp only [freshD, List.all_eq_true] at h1
      simp only [closedD] at h2
      exact .agg cs l hl fun i v d h3 h4 => fresh_lit (h1 d (List.mem_of_getElem? h4)) (closedL_mem h2 h4) (hr i v d h3 h4)
    | tup cs l hl hr =>
      simp only [freshD, List.all_eq_true] at h1
      simp only [closedD] at h2
      exact .tup cs l hl fun i v d h3 h4 => fresh_lit (h1 d (List.mem_of_getElem? h4)) (closedL_mem h2 h4) (hr i v d h3 h4)
    | fn f cs l hl hr => simp [freshD] at h1
    | slnil => simp [freshD] at h1
    | sl0 a => simp [freshD] at h1
    | sl L b o e c hst hc hb hu hr => simp [freshD] at h1
    | rp l b o hst hcl hb hr => simp [freshD] at h1
    | mp b ver i k a hb hle ha => simp [closedD] at h2
    | ms b ver i l c a hb hle ha => simp [closedD] at h2

theorem mapO_rel {f : DV → Option DV} {vs : List Value} {l m : List DV} {T : DV → Prop} (hrs : DRs S h vs l) (hT : ∀ d, d ∈ l → T d) (hm : mapO f l = some m)
    (hf : ∀ v d d', T d → DR S h v d → f d = some d' → DR S' h' v d' ∧ closedD d' = true) : DRs S' h' vs m ∧ closedL m = true := by
  obtain ⟨h1, h2⟩ := mapO_some hm
  constructor
  · refine ⟨by rw [h1]; exact hrs.1, fun i v d' h3 h4 => ?_⟩
    have hi : i < l.length := by rw [← h1]; exact (List.getElem?_eq_some_iff.1 h4).1
    have h5 := List.getElem?_eq_getElem hi
    exact (hf v _ d' (hT _ (List.getElem_mem hi)) (hrs.2 i v _ h3 h5) (h2 i _ _ h5 h4)).1
  · refine closedL_iff.2 fun d' hd' => ?_
    obtain ⟨i, hi, rfl⟩ := List.mem_iff_getElem.1 hd'
    have hi2 : i < l.length := by rw [← h1]; exact hi
    obtain ⟨v, h3, h4⟩ := hrs.get (List.getElem?_eq_getElem hi2)
    exact (hf v _ _ (hT _ (List.getElem_mem hi2)) h4 (h2 i _ _ (List.getElem?_eq_getElem hi2) (List.getElem?_eq_getElem hi))).2
theorem mapO_append {α : Type} {f : α → Option α} : ∀ {l m l' m' : List α}, mapO f l = some m → mapO f l' = some m' → mapO f (l ++ l') = some (m ++ m')
  | [], m, l', m', h1, h2 => by simp [mapO] at h1; subst h1; exact h2
  | x :: l, m, l', m', h1, h2 => by
    simp only [mapO, Option.bind_eq_some_iff, Option.map_eq_some_iff] at h1
    obtain ⟨y, h3, q, h4, rfl⟩ := h1
    simp only [List.cons_append, mapO, h3, Option.bind_some, mapO_append h4 h2, Option.map_some]
theorem mapO_flat {f : DV → Option DV} : ∀ {X Y : List (List DV)}, mapO (mapO f) X = some Y → mapO f X.flatten = some Y.flatten
  | [], Y, h => by simp [mapO] at h; subst h; rfl
  | x :: X, Y, h => by
    simp only [mapO, Option.bind_eq_some_iff, Option.map_eq_some_iff] at h
    obtain ⟨y, h1, m, h2, rfl⟩ := h
    simp only [List.flatten_cons]
    exact mapO_append h1 (mapO_flat h2)
theorem frz_gen {T : DV → Prop} (hx : HX S pr h H) (hh : Heir H T) (hown : ∀ b, (hg H b).live = true → Stb S' h' (S.j b) ∧ ∀ e xs, h[S.j b]? = some (.cells false e xs) → ∃ ro, h'[S.j b]? = some (.cells ro e xs))
    (hT : ∀ v d, T d → closedD d = true → DR S h v d → DR S' h' v d) : ∀ (n : Nat) (v : Value) (d d' : DV), T d → DR S h v d → frzD H n d = some d' → DR S' h' v d' ∧ closedD d' = true
  | 0, v, d, d', _, _, hf => by simp [frzD] at hf
  | n + 1, v, d, d', ht, hr, hf => by
    have ih := frz_gen hx hh hown hT n
    have keep : closedD d = true → some d = some d' → DR S' h' v d' ∧ closedD d' = true := fun hc he => by
      simp at he; subst he; exact ⟨hT v d ht hc hr, hc⟩
    simp only [frzD] at hf
    split at hf
    · rename_i a l c
      simp at hf; subst hf
      obtain ⟨rfl, hs⟩ := hr.lit_inv
      cases a <;> simp [scal] at hs
      obtain ⟨rfl, rfl⟩ := hs
      exact ⟨.slnil, rfl⟩
    · rename_i l
      simp only [Option.map_eq_some_iff] at hf
      obtain ⟨m, hm, rfl⟩ := hf
      obtain ⟨cs, rfl, h1⟩ := hr.agg_inv
      obtain ⟨h2, h3⟩ := mapO_rel h1 (hh.agg l ht) hm ih
      exact ⟨.agg _ _ h2.1 h2.2, by simpa [closedD] using h3⟩
    · rename_i l
      simp only [Option.map_eq_some_iff] at hf
      obtain ⟨m, hm, rfl⟩ := hf
      obtain ⟨cs, rfl, h1⟩ := hr.tup_inv
      obtain ⟨h2, h3⟩ := mapO_rel h1 (hh.tup l ht) hm ih
      exact ⟨.tup _ _ h2.1 h2.2, by simpa [closedD] using h3⟩
    · rename_i f l
      simp only [Option.map_eq_some_iff] at hf
      obtain ⟨m, hm, rfl⟩ := hf
      obtain ⟨cs, rfl, h1⟩ := hr.fn_inv
      obtain ⟨h2, h3⟩ := mapO_rel h1 (hh.fn f l ht) hm ih
      exact ⟨.fn _ _ _ h2.1 h2.2, by simpa [closedD] using h3⟩
    · rename_i b ver i k
      simp only [Option.bind_eq_some_iff] at hf
      obtain ⟨el, hel, hf⟩ := hf
      split at hf
      case isFalse => simp at hf
      rename_i hk
      simp only [Option.map_eq_some_iff] at hf
      obtain ⟨m, hm, rfl⟩ := hf
      obtain ⟨hl, hv, hi, xs, h1, h2, h3⟩ := hx.at_ hel
      obtain ⟨a, rfl, _, _, ha⟩ := hr.mp_inv
      rw [ha hv]
      obtain ⟨hst, hc⟩ := hown b hl
      obtain ⟨ro, hc⟩ := hc _ _ h1
      have h4 := h3.drop k
      rw [List.drop_take, List.drop_drop] at h4
      obtain ⟨h5, h6⟩ := mapO_rel h4 (fun d hd => hh.mp b ver i k el ht hel d (List.mem_of_mem_drop hd)) hm ih
      have hml : m.length = el.length - k := by rw [(mapO_some hm).1]; simp
      exact ⟨DR.rp_mk hst h6 hc (by omega) (by rw [hml]; exact h5), rfl⟩
    · rename_i b ver i l c
      simp only [Option.bind_eq_some_iff] at hf
      obtain ⟨X, hX, hf⟩ := hf
      split at hf
      case isFalse => simp at hf
      rename_i hlc
      obtain ⟨hl, hv, hne, hlen, hXe, hle0, hu, xs, h1, h2, h3⟩ := hx.part hX
      obtain ⟨a, rfl, _, _, ha⟩ := hr.ms_inv
      rw [ha hv]
      obtain ⟨hst, hc⟩ := hown b hl
      obtain ⟨ro, hc⟩ := hc _ _ h1
      have hT2 : ∀ d, d ∈ X.flatten → T d := fun d hd => by
        obtain ⟨el, h4, h5⟩ := List.mem_flatten.1 hd
        exact hh.ms b ver i l c X ht hX el h4 d h5
      split at hf
      · rename_i hall
        simp at hf; subst hf
        simp only [List.all_eq_true] at hall
        refine ⟨?_, rfl⟩
        have := DR.sl_mk (h := h') (S := S') (b := S.j b) (o := i * S.e b) (e := S.e b) (c := c) (L := X) hst (by omega) (fun el hel => ⟨hu el hel, hall el hel⟩) hc (by rw [hlen]; exact h2) ?_
        · rw [hlen] at this; exact this
        · rw [hlen]
          refine ⟨h3.1, fun i v d h4 h5 => hT v d (hT2 d (List.mem_of_getElem? h5)) ?_ (h3.2 i v d h4 h5)⟩
          obtain ⟨el, h6, h7⟩ := List.mem_flatten.1 (List.mem_of_getElem? h5)
          exact closedL_iff.1 (hall el h6) d h7
      · simp only [Option.map_eq_some_iff] at hf
        obtain ⟨Y, hY, rfl⟩ := hf
        obtain ⟨y1, y2⟩ := mapO_some hY
        have hflat := mapO_flat hY
        obtain ⟨h4, h5⟩ := mapO_rel h3 hT2 hflat ih
        have hY2 : ∀ el, el ∈ Y → el.length = S.e b ∧ closedL el = true := by
          intro el hel
          obtain ⟨q, hq, rfl⟩ := List.mem_iff_getElem.1 hel
          have hq2 : q < X.length := by rw [← y1]; exact hq
          have := y2 q _ _ (List.getElem?_eq_getElem hq2) (List.getElem?_eq_getElem hq)
          refine ⟨by rw [(mapO_some this).1]; exact hu _ (List.getElem_mem hq2), closedL_iff.2 fun d hd => closedL_iff.1 h5 d (List.mem_flatten.2 ⟨_, hel, hd⟩)⟩
        refine ⟨?_, rfl⟩
        have := DR.sl_mk (h := h') (S := S') (b := S.j b) (o := i * S.e b) (e := S.e b) (c := c) (L := Y) hst (by omega) hY2 hc (by rw [y1, hlen]; exact h2) (by rw [y1, hlen]; exact h4)
        rw [y1, hlen] at this; exact this
    · rename_i hd1 hd2 hd3 hd4 hd5 hd6
      refine keep ?_ hf
      cases d with
      | bad => rfl
      | lit v => cases v <;> first | rfl | exact absurd rfl (hd1 _ _ _)
      | agg l => exact absurd rfl (hd2 _)
      | tup l => exact absurd rfl (hd3 _)
      | sl L => rfl
      | rp l => rfl
      | fn f l => exact absurd rfl (hd4 _ _)
      | mp b ver i k => exact absurd rfl (hd5 _ _ _ _)
      | ms b ver i l c => exact absurd rfl (hd6 _ _ _ _ _)
end Go.Proofs.Cp
