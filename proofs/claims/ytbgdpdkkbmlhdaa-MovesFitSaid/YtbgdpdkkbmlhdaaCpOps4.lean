/- The operations, one by one (4): append, copy, clear, make, slices of slices, comparisons. -/
import Derived.Test.YtbgdpdkkbmlhdaaCpOps3
set_option linter.unusedSimpArgs false
set_option linter.unusedVariables false
namespace Go.Proofs.Cp
open Go Go.RowKit
section
variable {G : Ctx} {S : Inj} {base : Nat} {h : Heap} {W : World} {nt : Nat → Bool} {e : Env} {a : Act} {call : Calls_} {v : Value} {ef : Eff}
variable {dst : Option Tmp} {type : TypeId} {pos : String} {after : Array Edge} {guard : Option (Nat × Bool)}

/-- append in place, the row beginning anywhere in its block. -/
theorem run_append_in {P : Program} (W : World) (t ty el : TypeId) (i : TypeInfo) (ht : P.underlying t = some (.slice el)) (hi : P.info? el = some i)
    (g off l c : Nat) (cur : Array Value) (te : TypeId) (hg : W.heap[g]? = some (.cells cur te (0, 0)))
    (b : Addr) (n c2 : Nat) (news : List Value) (hl : news.length = n * i.size) (hnews : ∀ j u, news[j]? = some u → W.cell? (b.add j) = some u) (h1 : ∀ u ∈ news, u.oneCell' = true)
    (hroom : l + n ≤ c) (hfit : off + l * i.size + news.length ≤ cur.size) :
    (Builtin.append_ #[t, t] ty #[.slice (some ⟨g, off, none⟩) l c, .slice (some b) n c2]).run P W =
      .ok (.slice (some ⟨g, off, none⟩) (l + n) c) (W.setRow g (cur.toList.take (off + l * i.size) ++ news ++ cur.toList.drop (off + l * i.size + news.length)).toArray) := by
  have hf := run_firstCells_some (P := P) W i.size n b n c2 news hl hnews
  have hst := run_storeCells_at P g (off + l * i.size) te news 0 cur W hg (by simpa using hfit) h1
  simp only [Nat.add_zero] at hst
  simp [Builtin.append_, run_underlying ht, sizeOf, typeInfo, hi, Builtin.lenOf, hroom, hf, Addr.add_lit, hst]

theorem ldN_some {b o n : Nat} {xs : List Value} {ro : Bool} {es : Nat} (hb : h[b]? = some (.cells ro es xs)) (hle : o + n ≤ xs.length) : ldN h b o n = some ((xs.drop o).take n) := by
  simp [ldN, hb, hle]

theorem all_one {l l' : List Value} {T : Nat → FuncId} (hv : VRs T S l l') (h : l.all one = true) : ∀ u ∈ l', u.oneCell' = true := by
  intro u hu
  obtain ⟨i, hi⟩ := List.getElem?_of_mem hu
  have hil : i < l.length := by rw [hv.1]; exact (List.getElem?_eq_some_iff.1 hi).1
  rw [one_oneCell, (hv.2 i _ u (List.getElem?_eq_getElem hil) hi).one]
  exact all_get h (List.getElem?_eq_getElem hil)

theorem does_append (hE : ER G.T S nt e a.tmps) (hr : HR G.T S base h W) {x z : Operand} {y u : Opd} {t el : TypeId} {i : TypeInfo} {zv : Value} (hc : cOpd G nt x = some y) (hz : cOpd G nt z = some u) (hu : G.P.underlying t = some (.slice el)) (hi : G.P.info? el = some i)
    (hzv : i.zero = some zv) (hzs : zv.cells.size = i.size) (hio : iop call (.append i.size i.bytes y u) e h = some (v, ef)) :
    ∃ v' W', Does G a ⟨dst, .call ⟨.builtin .append, #[x, z], #[t, t]⟩, type, pos, after, guard⟩ W v' W' ∧ After G.T S base h W v ef v' W' := by
  have h1 := opd_sound hE hc
  have h2 := opd_sound hE hz
  simp only [iop] at hio
  generalize ev e y = sv at h1 hio
  generalize ev e u = xv at h2 hio
  suffices hsuff : ∃ v' W', (Builtin.append_ #[t, t] type #[a.eval x, a.eval z]).run G.P W = .ok v' W' ∧ After G.T S base h W v ef v' W' by
    obtain ⟨v', W', hrun, hA⟩ := hsuff
    exact ⟨v', W', .inl (by simp [execOp, resolve, invoke, builtin, hrun]), hA⟩
  unfold appendV at hio
  split at hio
  · rename_i xa n cx
    simp only [Option.bind_eq_some_iff] at hio
    obtain ⟨news, hnews, hio⟩ := hio
    -- what the source holds
    have hsrc : (n = 0 ∧ news = []) ∨ ∃ b' c2 news', a.eval z = .slice (some b') n c2 ∧ 0 < n ∧ VRs G.T S news news' ∧ news.length = n * i.size ∧ ∀ j u, news'[j]? = some u → W.cell? (b'.add j) = some u := by
      by_cases hn0 : n = 0
      · rw [if_pos hn0] at hnews
        simp at hnews
        exact .inl ⟨hn0, hnews⟩
      rw [if_neg hn0] at hnews
      cases xa with
      | none => simp at hnews
      | some xa =>
        obtain ⟨_, hb, hlc, q, c2, e2, hcc, hq, _⟩ := h2.inv_slice
        obtain ⟨_, hlen, news', h3, h4⟩ := ldN_read hr hb hnews
        rcases Nat.eq_zero_or_pos n with h0 | h0
        · exact .inl ⟨h0, by subst h0; exact List.eq_nil_of_length_eq_zero (by simpa using hlen)⟩
        · have hq' : q = xa.off := by rcases hq with h0 | h0 <;> omega
          subst hq'
          exact .inr ⟨_, c2, news', e2, h0, h3, hlen, h4⟩
    have hzero : n = 0 → ∃ p' c2, a.eval z = .slice p' 0 c2 := fun h0 => by
      subst h0
      obtain ⟨p', c', e1, _⟩ := h2.inv_slice'
      exact ⟨p', c', e1⟩
    split at hio
    · -- the nil slice
      have e1 : a.eval x = .slice none 0 0 := (h1.inv_nilS).2.2
      rw [e1]
      split at hio
      · rename_i h0
        simp only [Option.some.injEq, Prod.mk.injEq] at hio
        obtain ⟨rfl, rfl⟩ := hio
        obtain ⟨p', c2, e2⟩ := hzero h0
        refine ⟨.slice none 0 0, W, ?_, .pure hr .nilS⟩
        cases p' <;> simp [e2, Builtin.append_, run_underlying hu, sizeOf, typeInfo, hi, Builtin.lenOf, Builtin.firstCells, loadCells, loadCellsFrom]
      · rename_i h0
        split at hio
        · rename_i hcond
          simp only [Option.some.injEq, Prod.mk.injEq] at hio
          obtain ⟨rfl, rfl⟩ := hio
          rcases hsrc with ⟨h0', _⟩ | ⟨b', c2, news', e2, hpos, h3, hlen, h4⟩
          · exact absurd h0' h0
          · have hl' : news'.length = n * i.size := by rw [← h3.1]; exact hlen
            have hrun := run_append_nil (P := G.P) W t type el i zv hu hi hzv b' n c2 news' hl' h4 hpos (by omega) (by omega)
            have hge := grownCap_ge W n 0 el
            refine ⟨_, _, by rw [e2]; exact hrun, ?_⟩
            have hsz : (news'.toArray ++ Builtin.zeroCells zv.cells (grownCap W n 0 el - n)).size = grownCap W n 0 el * i.size := by
              simp only [Array.size_append, List.size_toArray, size_zeroCells, hl', hzs, ← Nat.add_mul]; congr 1; omega
            have hnew := hr.drew.new (room := grownCap W n 0 el * i.size) (e := i.size) (xs := news) (cs := news'.toArray ++ Builtin.zeroCells zv.cells (grownCap W n 0 el - n)) (t := el) (by omega)
              (by rw [hlen]; exact Nat.mul_le_mul_right _ hge) (fun j v hj => by
                obtain ⟨v', a1, a2⟩ := h3.get' hj
                have hjl := (List.getElem?_eq_some_iff.1 a1).1
                refine ⟨v', ?_, a2⟩
                rw [Array.getElem?_append_left (by simpa using hjl)]; simpa using a1)
            refine ⟨_, S.push_ext _ _ _, by simp, ?_, hnew, ((Below.refl _ _).drew).alloc hr.drew.bs _⟩
            have := VR.slice (T := G.T) (S := S.push ⟨W.drew.heap.size, 0, none⟩ (grownCap W n 0 el * i.size) i.size) S.n 0 0 n n (grownCap W n 0 el) (S.push_has _ _ _) (Nat.le_refl _) hge (.inr rfl) (by rw [Inj.push_room, Inj.push_esz]; omega)
            rw [Inj.push_base, add_lit] at this
            rw [hr.len]; exact this
        · simp at hio
    · -- a slice
      rename_i sa l c
      obtain ⟨_, hb, hlc, q, c', e1, hcc, hq, hfit⟩ := h1.inv_slice
      split at hio
      · rename_i hroom
        split at hio
        · rename_i h0
          simp only [Option.some.injEq, Prod.mk.injEq] at hio
          obtain ⟨rfl, rfl⟩ := hio
          obtain ⟨p', c2, e2⟩ := hzero h0
          refine ⟨_, W, ?_, .pure hr h1⟩
          rw [e1, e2]
          have hlc' : l ≤ c' := by omega
          cases p' <;> simp [Builtin.append_, run_underlying hu, sizeOf, typeInfo, hi, Builtin.lenOf, Builtin.firstCells, loadCells, loadCellsFrom, hlc', storeCells]
        · rename_i h0
          simp only [Option.map_eq_some_iff, Prod.mk.injEq] at hio
          obtain ⟨h', hst, rfl, rfl⟩ := hio
          rcases hsrc with ⟨h0', _⟩ | ⟨b', c2, news', e2, hpos, h3, hlen, h4⟩
          · exact absurd h0' h0
          · have hq' : q = sa.off := by rcases hq with h0 | h0 <;> omega
            subst hq'
            obtain ⟨_, W', hrun, hh, hbl⟩ := hr.store (P := G.P) hb hst h3
            have hl' : news'.length = n * i.size := by rw [← h3.1]; exact hlen
            have hf := run_firstCells_some (P := G.P) W i.size n b' n c2 news' hl' h4
            have hroom' : l + n ≤ c' := by omega
            rw [← Addr.add_add] at hrun
            refine ⟨.slice (some ((S.base sa.block).add sa.off)) (l + n) c', W', ?_, S, .refl _, by simp, ?_, hh, hbl⟩
            · rw [e1, e2]
              simp [Builtin.append_, run_underlying hu, sizeOf, typeInfo, hi, Builtin.lenOf, hroom', hf, hrun]
            · have hsp : sa.spot = none := by rename_i hs _ _; exact h1.inv_slice.1
              have : sa = ⟨sa.block, sa.off, none⟩ := by cases sa; simp at hsp; simp [hsp]
              rw [this]
              exact .slice _ _ _ _ _ _ hb hroom hcc (.inr rfl) hfit
      · rename_i hroom
        split at hio
        · rename_i es xs hblk
          split at hio
          · rename_i hcond
            obtain ⟨rfl, hes0, hoff, _, hbytes, h63, hone⟩ := hcond
            simp only [Option.some.injEq, Prod.mk.injEq] at hio
            obtain ⟨rfl, rfl⟩ := hio
            rcases hsrc with ⟨h0', _⟩ | ⟨b', c2, news', e2, hpos, h3, hlen, h4⟩
            · omega
            · have hl' : news'.length = n * i.size := by rw [← h3.1]; exact hlen
              obtain ⟨hesz, hcells⟩ := hr.cells _ _ _ _ hblk hb.2
              obtain ⟨hsp, hbs, hxr, cs, te, hcs, hsize⟩ := hr.own _ _ _ hblk hb.2
              -- what the slice holds
              have holdsV : ∃ olds', VRs G.T S ((xs.drop sa.off).take (l * i.size)) olds' ∧ olds'.length = l * i.size ∧ ∀ j u, olds'[j]? = some u → W.cell? (((S.base sa.block).add q).add j) = some u := by
                rcases Nat.eq_zero_or_pos l with hl0 | hl0
                · subst hl0; exact ⟨[], by simp; exact .nil, by simp, by simp⟩
                · have hq' : q = sa.off := by rcases hq with h0 | h0 <;> omega
                  subst hq'
                  have hld := ldN_some (n := l * i.size) hblk hoff
                  obtain ⟨_, hlen2, olds', h5, h6⟩ := ldN_read hr hb hld
                  exact ⟨olds', h5, by rw [← h5.1]; exact hlen2, h6⟩
              obtain ⟨olds', hov, holen, hoc⟩ := holdsV
              have holds_len : ((xs.drop sa.off).take (l * i.size)).length = l * i.size := by rw [hov.1]; exact holen
              rw [hesz] at hfit
              by_cases hin : l + n ≤ c'
              · -- in place
                have hA : (S.base sa.block).add q = ⟨(S.base sa.block).block, (S.base sa.block).off + q, none⟩ := add_eta _ hsp q
                have hmul : (l + n) * i.size ≤ c' * i.size := Nat.mul_le_mul_right _ hin
                have hmul2 : (l + n) * i.size = l * i.size + n * i.size := Nat.add_mul _ _ _
                have hrun := run_append_in (P := G.P) W t type el i hu hi (S.base sa.block).block ((S.base sa.block).off + q) l c' cs te hcs b' n c2 news' hl' h4 (all_one h3 hone) hin (by omega)
                refine ⟨_, _, by rw [e1, e2, hA]; exact hrun, ?_⟩
                have hnew := setRow_heap W (S.base sa.block).block cs (cs.toList.take ((S.base sa.block).off + q + l * i.size) ++ news' ++ cs.toList.drop ((S.base sa.block).off + q + l * i.size + news'.length)).toArray te (0, 0) hcs
                have hadopt := (hr.kill sa.block).adopt (W' := W.setRow (S.base sa.block).block (cs.toList.take ((S.base sa.block).off + q + l * i.size) ++ news' ++ cs.toList.drop ((S.base sa.block).off + q + l * i.size + news'.length)).toArray)
                  (g := (S.base sa.block).block) (p := (S.base sa.block).off + q) (room := S.room sa.block - q) (e := i.size) (xs := (xs.drop sa.off).take (l * i.size) ++ news) (t := te) hbs (by simp) (fun k _ hk => setRow_other W _ k _ hk)
                  (fun b2 x2 hb2 hok2 hl2 => by
                    rcases get_set_heap hb2 with ⟨rfl, rfl, _⟩ | ⟨hne, hb2⟩
                    · simp [live] at hl2
                    · exact (hr.sep sa.block b2 _ x2 hblk hb2 hb.2 hok2 rfl hl2 (Ne.symm hne)).symm)
                  hnew (by simp; omega) (by simp only [List.length_append, holds_len, hlen]; omega)
                  (fun j v hj => by
                    have hjl : j < l * i.size + n * i.size := by
                      have := (List.getElem?_eq_some_iff.1 hj).1
                      simp only [List.length_append, holds_len, hlen] at this; exact this
                    have hpg := put_get (xs := cs.toList) (vs := news') (o := (S.base sa.block).off + q + l * i.size) (by simp; omega) ((S.base sa.block).off + q + j)
                    unfold put at hpg
                    simp only [List.getElem?_toArray, hpg]
                    rcases Nat.lt_or_ge j (l * i.size) with hjo | hjo
                    · rw [List.getElem?_append_left (by omega)] at hj
                      obtain ⟨v', a1, a2⟩ := hov.get' hj
                      refine ⟨v', ?_, a2⟩
                      rw [if_neg (by omega)]
                      have := hoc j v' a1
                      rw [hA, add_lit, cell_of_row W _ _ _ te (0, 0) hcs] at this
                      simpa using this
                    · rw [List.getElem?_append_right (by omega), holds_len] at hj
                      obtain ⟨v', a1, a2⟩ := h3.get' hj
                      refine ⟨v', ?_, a2⟩
                      rw [if_pos (by omega)]
                      rw [← a1]; congr 1; omega)
                refine ⟨_, S.push_ext _ _ _, by simp, ?_, hadopt, ?_⟩
                · have := VR.slice (T := G.T) (S := S.push ⟨(S.base sa.block).block, (S.base sa.block).off + q, none⟩ (S.room sa.block - q) i.size) S.n 0 0 (l + n) (l + n) c' (S.push_has _ _ _) (Nat.le_refl _) hin (.inr rfl) (by rw [Inj.push_room, Inj.push_esz]; omega)
                  rw [Inj.push_base, add_lit] at this
                  rw [hr.len]; exact this
                · refine ⟨rfl, rfl, rfl, by simp, fun k hk => setRow_other W _ k _ (by omega)⟩
              · -- a new row
                have hrun := run_append_grow (P := G.P) W t type el i zv hu hi hzv ((S.base sa.block).add q) l c' olds' holen hoc b' n c2 news' hl' h4 (by omega) (by omega) (growslice_fits (by omega) hbytes)
                have hge := grownCap_ge W (l + n) c' el
                refine ⟨_, _, by rw [e1, e2]; exact hrun, ?_⟩
                have hmul2 : (l + n) * i.size = l * i.size + n * i.size := Nat.add_mul _ _ _
                have hsz : (olds'.toArray ++ news'.toArray ++ Builtin.zeroCells zv.cells (grownCap W (l + n) c' el - (l + n))).size = grownCap W (l + n) c' el * i.size := by
                  simp only [Array.size_append, List.size_toArray, size_zeroCells, hl', holen, hzs, ← Nat.add_mul]; congr 1; omega
                have hmul3 : (l + n) * i.size ≤ grownCap W (l + n) c' el * i.size := Nat.mul_le_mul_right _ hge
                have hnew := (hr.kill sa.block).drew.new (room := grownCap W (l + n) c' el * i.size) (e := i.size) (xs := (xs.drop sa.off).take (l * i.size) ++ news) (cs := olds'.toArray ++ news'.toArray ++ Builtin.zeroCells zv.cells (grownCap W (l + n) c' el - (l + n))) (t := el) (by omega)
                  (by simp only [List.length_append, holds_len, hlen]; omega) (fun j v hj => by
                    obtain ⟨v', a1, a2⟩ := (hov.append h3).get' hj
                    have hjl := (List.getElem?_eq_some_iff.1 a1).1
                    refine ⟨v', ?_, a2⟩
                    rw [Array.getElem?_append_left (by simpa using hjl)]; simpa using a1)
                refine ⟨_, S.push_ext _ _ _, by simp, ?_, hnew, ((Below.refl _ _).drew).alloc hr.drew.bs _⟩
                have := VR.slice (T := G.T) (S := S.push ⟨W.drew.heap.size, 0, none⟩ (grownCap W (l + n) c' el * i.size) i.size) S.n 0 0 (l + n) (l + n) (grownCap W (l + n) c' el) (S.push_has _ _ _) (Nat.le_refl _) hge (.inr rfl) (by rw [Inj.push_room, Inj.push_esz]; omega)
                rw [Inj.push_base, add_lit] at this
                rw [hr.len]; exact this
          · simp at hio
        · simp at hio
    · simp at hio
  · simp at hio
end
end Go.Proofs.Cp
