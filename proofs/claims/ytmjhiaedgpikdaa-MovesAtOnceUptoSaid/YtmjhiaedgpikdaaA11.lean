/- THE SECOND MACHINE, 11: append, copy, clear, len, max, min. Own work. -/
import Derived.Test.YtmjhiaedgpikdaaA10
import Derived.Deep.AppendSrc
set_option linter.unusedSimpArgs false
set_option linter.unusedVariables false
namespace Go.AI
section
variable {P : Program} {o : Oper} {ao : AOp}

theorem run_builtin {b : Builtin} {args : Array Operand} {ats : Array TypeId} (hop : o.op = .call { callee := .builtin b, args := args, argTypes := ats }) (a : Act) (w : World) (s : Sem Value)
    (hs : ∀ cs, builtin b ats o.type cs (args.map a.eval) = (do pure (.value (← s)))) :
    (execOp a.eval o).run P w = (s.run P w).andThen fun v w => .ok (.value v) w := by
  simp only [execOp, hop, resolve, invoke, pure_bind, hs, Sem.run_bind, Sem.run_pure]

/-- Rows that are read. -/
theorem run_rows {φ : Emb} {w0 w : World} {H : AHeap} (hR : Rel φ w0 H w) {esz n : Nat} {x : AV} {cs : List AV} (h : rows H esz n x = some cs) (hx0 : ∀ m, lenOf x = some m → n ≤ m) {v : Value} (hv : VR φ x v) :
    ∃ vs : List Value, vs.length = n * esz ∧ VRs φ cs vs ∧ ∀ w', w'.heap = w.heap → (Builtin.firstCells esz n v).run P w' = .ok vs.toArray w' := by
  unfold rows at h
  split at h
  · split at h
    · rename_i hn
      subst hn
      cases h
      have hv : v = .slice none 0 0 := hv
      subst hv
      exact ⟨[], by simp, VRs.nil, fun w' _ => by simp [Builtin.firstCells]⟩
    · cases h
  · rename_i i off len cap tail
    obtain ⟨hle, l, hl, b, c, rfl, hc, ha⟩ := hv
    have hn : n ≤ len := hx0 len rfl
    obtain ⟨vs, h1, h2, h3, h4⟩ := hR.run_load hl h P b (fun hne => ha (by
      have : n ≠ 0 := by intro e; subst e; simp at hne
      omega))
    refine ⟨vs, h1, h2, fun w' hw => ?_⟩
    have := run_loadCells_list (P := P) w' b vs (fun j u hj => by
      have := h4 j u hj
      rw [← this]
      exact World.cell?_of_block (by rw [hw]))
    rw [h1] at this
    exact this
  · cases h

theorem run_lenOf {φ : Emb} {x : AV} {n : Nat} (h : lenOf x = some n) {v : Value} (hv : VR φ x v) (w : World) : (Builtin.lenOf v).run P w = .ok n w := by
  unfold lenOf at h
  split at h
  · cases h; have hv : v = .slice none 0 0 := hv; subst hv; rfl
  · cases h; obtain ⟨_, l, _, b, c, rfl, _⟩ := hv; rfl
  · cases h

theorem VRs.all_one {φ : Emb} {as : List AV} {vs : List Value} (h : VRs φ as vs) (k : as.all AV.one = true) : ∀ u ∈ vs, u.oneCell' = true := by
  intro v hvm
  obtain ⟨j, hj⟩ := List.mem_iff_getElem?.1 hvm
  have hj' : j < as.length := by
    rw [h.length]
    exact (List.getElem?_eq_some_iff.1 hj).1
  obtain ⟨v', h5, h6⟩ := h.get (List.getElem?_eq_getElem hj')
  rw [hj] at h5
  cases h5
  exact h6.oneCell (List.all_eq_true.1 k _ (List.getElem_mem hj'))

/-- A new row with room behind it. -/
theorem Rel.newRow {φ : Emb} {w0 w : World} {H : AHeap} (hR : Rel φ w0 H w) {cs : List AV} {vs : List Value} (hv : VRs φ cs vs) (t : TypeId) (esz : Nat) (zv : Value) (hz : zv.cells.size = esz) (ext : Nat) :
    ∃ φ', Step φ H φ' (H.alloc (.cells cs esz)) ∧ Rel φ' w0 (H.alloc (.cells cs esz)) (w.drew.alloc (.cells (vs.toArray ++ Builtin.zeroCells zv.cells ext) t)) ∧ φ' (.n H.next) = some ⟨w.heap.size, 0, ext, false⟩ := by
  have h := hR.drew.alloc (.cells cs esz) (.cells (vs.toArray ++ Builtin.zeroCells zv.cells ext) t) ext (by
    refine ⟨_, t, (0, 0), heap_alloc_new w.drew _, fun _ => rfl, ?_, ?_⟩
    · simp only [List.drop_zero, Array.toList_append, hv.length]
      rw [List.take_left]
      exact hv
    · have := hv.length
      simp [size_zeroCells, hz, this])
  exact ⟨_, h.2, h.1, Emb.upd_same _ _ _⟩

theorem ok_append {t u : TypeId} {x y : Operand} {args : Array Operand} {ats : Array TypeId} (hop : o.op = .call { callee := .builtin .append, args := args, argTypes := ats })
    (hargs : args.toList = [x, y]) (hats : ats.toList = [t, u]) (h : trBuiltin P .append [t, u] [x, y] = some ao) : OpOk P o ao := by
  intro φ w0 T H a w v H' hT hR he
  obtain rfl : args = #[x, y] := by rw [← Array.toList_inj]; exact hargs
  obtain rfl : ats = #[t, u] := by rw [← Array.toList_inj]; exact hats
  simp only [trBuiltin] at h
  split at h
  · rename_i e e2 x' y' ht hu hx hy
    split at h
    · rename_i i z hi hz
      split at h
      · cases h
      · rename_i hsz0
        cases h
        obtain ⟨zv, i', hi', hiz, hsz, hzv⟩ := zeroCellsT_run hz
        rw [hi] at hi'
        cases hi'
        have hzl : zv.cells.size = i.size := by rw [hsz]; exact ((hzv φ).of_array).symm
        have hvx := ev_VR hT hR hx
        have hvy := ev_VR hT hR hy
        have hex : (execOp a.eval o).run P w = ((Builtin.append_ #[t, u] o.type #[a.eval x, a.eval y]).run P w).andThen fun v w => .ok (.value v) w :=
          run_builtin hop a w _ (fun cs => by simp [builtin])
        simp only [opF, appendOp] at he
        split at he
        · cases he
        · rename_i n hn
          split at he
          · cases he
          · rename_i new hnew
            split at he
            · rename_i hone
              obtain ⟨vs, hvl, hvs, hfc⟩ := run_rows (P := P) hR hnew (fun m hm => by rw [hn] at hm; cases hm; exact Nat.le_refl _) hvy
              have hsrc : Src P i.size u (a.eval y) n vs w := ⟨.inl ⟨e2, hu⟩, fun w' => run_lenOf hn hvy w', hfc w rfl, hfc w.drew rfl, hvl, hvs.all_one hone⟩
              -- a new row, whatever the old one was
              have grown : ∀ (φ1 : Emb) (H1 : AHeap), Rel φ1 w0 H1 w → Step φ H φ1 H1 → H1.next = H.next → ∀ (base : Option Addr) (sLen sCap : Nat) (old : List AV) (olds : List Value), a.eval x = .slice base sLen sCap → VRs φ old olds → olds.length = sLen * i.size →
                  (Builtin.firstCells i.size sLen (.slice base sLen sCap)).run P w.drew = .ok olds.toArray w.drew → sCap < sLen + n → (sLen + n) * i.bytes ≤ reachB → sLen + n ≤ reachB →
                  ∃ φ' v' w', Res ((execOp a.eval o).run P w) v' w' ∧ Step φ H φ' (H1.alloc (.cells (old ++ new) i.size)) ∧ VR φ' (.slc (.n H.next) 0 (sLen + n) (sLen + n) true) v' ∧ Rel φ' w0 (H1.alloc (.cells (old ++ new) i.size)) w' := by
                intro φ1 H1 hR1 hle1 hnx base sLen sCap old olds hbx hov hol hfo hlt hb1 hb2
                have hrun := run_append_grow_src (P := P) w t u o.type e i zv ht hi hiz base sLen sCap olds hfo (a.eval y) n vs hsrc hlt (by simp only [reachB] at hb2; omega) (growslice_fits hlt (by simp only [reachB] at hb1; exact hb1))
                have hge := grownCap_ge w (sLen + n) sCap e
                obtain ⟨φ', h1, h2, h3⟩ := hR1.newRow ((hov.append hvs).mono hle1.le) e i.size zv hzl (grownCap w (sLen + n) sCap e - (sLen + n))
                refine ⟨φ', _, _, .inl (by rw [hex, hbx, hrun]; rfl), Step.trans hle1 h1, ⟨Nat.le_refl _, _, hnx ▸ h3, _, _, rfl, ?_, fun _ => rfl⟩, h2⟩
                simp
                omega
              split at he
              · -- nil
                rename_i hxn
                rw [hxn] at hvx
                have hvx : a.eval x = .slice none 0 0 := hvx
                split at he
                · rename_i hn0
                  subst hn0
                  cases he
                  have hvs0 : vs = [] := List.eq_nil_of_length_eq_zero (by simpa using hvl)
                  subst hvs0
                  refine OpOk.same rfl hR (v' := .slice none 0 0) ?_ rfl
                  rw [hex, hvx]
                  have h1 := hsrc.len
                  have h2 := hsrc.cells
                  simp [Builtin.append_, run_underlying ht, run_underlying hu, sizeOf, run_typeInfo' hi, h1, h2]
                · rename_i hn0
                  split at he
                  · rename_i hb
                    cases he
                    have := grown φ H hR (Step.refl _ _) rfl none 0 0 [] [] hvx VRs.nil (by simp) (by simp [Builtin.firstCells]) (by omega) (by rw [Nat.zero_add]; exact hb.1) (by rw [Nat.zero_add]; exact hb.2)
                    simpa using this
                  · cases he
              · rename_i j off len cap tail hxs
                rw [hxs] at hvx
                obtain ⟨hle, l, hl, b, c, hbx, hcc, ha⟩ := hvx
                split at he
                · -- there is room
                  rename_i hroom
                  split at he
                  · rename_i H1 hst
                    cases he
                    have hroom' : len + n ≤ c := by omega
                    obtain ⟨w', h1, h2, h3⟩ := hR.run_store hl hst hvs P (b.add (len * i.size)) (fun hne => by
                      have hc0 : c ≠ 0 := by
                        intro e0
                        have hn0 : n = 0 := by omega
                        subst hn0
                        have : vs = [] := List.eq_nil_of_length_eq_zero (by simpa using hvl)
                        subst this
                        exact hne (List.eq_nil_of_length_eq_zero (by rw [hvs.length]; rfl))
                      rw [ha hc0, addr_add, Nat.add_assoc])
                    refine ⟨φ, .slice (some b) (len + n) c, w', .inl ?_, h3, ⟨hroom, l, hl, b, c, rfl, hcc, ha⟩, h2⟩
                    rw [hex, hbx]
                    have k1 := hsrc.len
                    have k2 := hsrc.cells
                    simp [Builtin.append_, run_underlying ht, run_underlying hu, sizeOf, run_typeInfo' hi, k1, k2, hroom', h1]
                  · cases he
                · rename_i hroom
                  split at he
                  · rename_i hb
                    split at he
                    · rename_i old hold
                      obtain ⟨olds, k1, k2, k3, k4⟩ := hR.run_load hl hold P b (fun hne => ha (by
                        have : len ≠ 0 := by intro e0; subst e0; simp at hne
                        omega))
                      have hfo : (Builtin.firstCells i.size len (.slice (some b) len c)).run P w.drew = .ok olds.toArray w.drew := by
                        have := run_firstCells_some (P := P) w.drew i.size len b len c olds k1 (by simpa using k4)
                        exact this
                      unfold growOp at he
                      split at he
                      · rename_i htail
                        subst htail
                        split at he
                        · rename_i k
                          split at he
                          · rename_i xs s hxs'
                            split at he
                            · rename_i hs
                              obtain ⟨rfl, hoff⟩ := hs
                              cases he
                              obtain ⟨hdead, hbr⟩ := hR.blk (.n k) _ l hxs' hl
                              by_cases hfit : len + n ≤ c
                              · -- it grows where it lies
                                have hc0 : c ≠ 0 := by
                                  intro e0
                                  omega
                                have ha' := ha hc0
                                obtain ⟨c', ty, fz, hh, hfz, hvv, hsize⟩ := hbr
                                have hfz := hfz rfl
                                subst hfz
                                have hlen := hvv.length
                                simp only [if_true] at hcc
                                have hpos : 0 < i.size := Nat.pos_of_ne_zero hsz0
                                have hend : off + cap * i.size + l.ext * i.size = off + c * i.size := by rw [hcc, Nat.add_mul, Nat.add_assoc]
                                have hin : (len + n) * i.size ≤ c * i.size := Nat.mul_le_mul_right _ hfit
                                have hst := run_storeCells_at P l.blk (l.off + off + len * i.size) ty vs 0 c' w hh (by rw [hvl, Nat.add_mul] at *; omega) (hvs.all_one hone)
                                have hkill := hR.kill k
                                have hag := hkill.again (.cells (old ++ new) i.size) ⟨l.blk, l.off + off, c - (len + n), false⟩ rfl
                                  (w' := w.setRow l.blk (c'.toList.take (l.off + off + len * i.size + 0) ++ vs ++ c'.toList.drop (l.off + off + len * i.size + 0 + vs.length)).toArray)
                                  (by
                                    intro q m hq hm e1
                                    by_cases e2 : q = .n k
                                    · subst e2
                                      rw [Emb.kill_same hl] at hq
                                      cases hq
                                      simp at hm
                                    · rw [Emb.kill_other _ e2] at hq
                                      exact e2 (hR.inj q (.n k) m l hq hl hm hdead e1))
                                  (hR.low k l hl) (hR.lt (.n k) l hl hdead)
                                  (by
                                    refine ⟨_, ty, (0, 0), setRow_heap w l.blk c' _ ty (0, 0) hh, fun _ => rfl, ?_, ?_⟩
                                    · have hcs : (c'.toList.take (l.off + off + len * i.size + 0) ++ vs ++ c'.toList.drop (l.off + off + len * i.size + 0 + vs.length)) = AI.lay c'.toList (l.off + off + len * i.size) vs := rfl
                                      rw [hcs, List.toList_toArray]
                                      have hol : old.length = len * i.size := by rw [k2.length]; exact k1
                                      have hnl : new.length = n * i.size := by rw [hvs.length]; exact hvl
                                      have e3 : ((AI.lay c'.toList (l.off + off + len * i.size) vs).drop (l.off + off)).take (old ++ new).length = (c'.toList.drop (l.off + off)).take (len * i.size) ++ vs := by
                                        have e4 := drop_take_lay c'.toList vs (l.off + off) (len * i.size) (len * i.size + n * i.size) (by omega) (by rw [Array.length_toList (xs := c')]; rw [Nat.add_mul] at hin; omega)
                                        rw [List.length_append, hol, hnl, e4]
                                        unfold AI.lay
                                        have e8 : ((c'.toList.drop (l.off + off)).take (len * i.size + n * i.size)).drop (len * i.size + vs.length) = [] := List.drop_eq_nil_of_le (by rw [List.length_take, hvl]; omega)
                                        rw [List.take_take, Nat.min_eq_left (by omega), e8, List.append_nil]
                                      rw [e3]
                                      refine (VRs.mono (Emb.le_kill φ (.n k)) ?_).append (VRs.mono (Emb.le_kill φ (.n k)) hvs)
                                      have e5 : (c'.toList.drop (l.off + off)).take (len * i.size) = olds := by
                                        apply List.ext_getElem?
                                        intro q
                                        rw [List.getElem?_take]
                                        by_cases hq : q < len * i.size
                                        · rw [if_pos hq]
                                          have hq' : q < olds.length := by rw [k1]; exact hq
                                          have hcell := k4 q _ (List.getElem?_eq_getElem hq')
                                          rw [ha', addr_add, cell_of_row w l.blk _ c' ty (0, 0) hh] at hcell
                                          rw [List.getElem?_eq_getElem hq', ← hcell, List.getElem?_drop]
                                          simp
                                        · rw [if_neg hq, List.getElem?_eq_none (by omega)]
                                      rw [e5]
                                      exact k2
                                    · have hcs : (c'.toList.take (l.off + off + len * i.size + 0) ++ vs ++ c'.toList.drop (l.off + off + len * i.size + 0 + vs.length)) = AI.lay c'.toList (l.off + off + len * i.size) vs := rfl
                                      have hol : old.length = len * i.size := by rw [k2.length]; exact k1
                                      have hnl : new.length = n * i.size := by rw [hvs.length]; exact hvl
                                      rw [hcs, List.size_toArray, length_lay _ _ _ (by rw [Array.length_toList (xs := c'), hvl]; rw [Nat.add_mul] at hin; omega), Array.length_toList (xs := c'), List.length_append, hol, hnl]
                                      simp only
                                      have e6 : (c - (len + n)) * i.size + (len + n) * i.size = c * i.size := by rw [← Nat.add_mul]; congr 1; omega
                                      rw [Nat.add_mul] at e6
                                      omega)
                                  (fun q hq => setRow_other w _ q _ hq) (setRow_size w _ _) rfl rfl rfl
                                refine ⟨_, .slice (some b) (len + n) c, _, .inl ?_, Step.trans (Step.kill hl) hag.2, ⟨Nat.le_refl _, _, Emb.upd_same _ _ _, b, c, rfl, ?_, fun _ => by rw [ha']; simp⟩, hag.1⟩
                                · rw [hex, hbx]
                                  have q1 := hsrc.len
                                  have q2 := hsrc.cells
                                  subst ha'
                                  simp only [Nat.add_zero] at hst ⊢
                                  simp [Builtin.append_, run_underlying ht, run_underlying hu, sizeOf, run_typeInfo' hi, q1, q2, hfit, addr_add, hst]
                                · simp
                                  omega
                              · -- it moves
                                exact grown _ _ (hR.kill k) (Step.kill hl) rfl (some b) len c old olds hbx k2 k1 hfo (by omega) hb.1 hb.2
                            · cases he
                          · cases he
                        · cases he
                      · cases he
                        exact grown φ H hR (Step.refl _ _) rfl (some b) len c old olds hbx k2 k1 hfo (by rename_i ht'; simp [ht'] at hcc; omega) hb.1 hb.2
                    · cases he
                  · cases he
              · cases he
            · cases he
    · cases h
  · cases h
end
end Go.AI
