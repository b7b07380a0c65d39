/- THE SECOND MACHINE, 14: the operations on maps. Own work. -/
import Derived.Test.YtmjhiaedgpikdaaA13
set_option linter.unusedSimpArgs false
set_option linter.unusedVariables false
namespace Go.AI
section
variable {P : Program} {o : Oper} {ao : AOp}

theorem mapT_run {t : TypeId} {ks : List CK} {ag : Bool} {z : AV} (h : mapT P t = some (ks, ag, z)) :
    ∃ k e, P.underlying t = some (.map k e) ∧ flatK P 100 k = some ks ∧ ag = isStructT P k ∧ ∃ zv, (∀ w, (zeroValue e).run P w = .ok zv w) ∧ ∀ φ, VR φ z zv := by
  unfold mapT at h
  split at h
  · rename_i k e hu
    split at h
    · rename_i ks' z' hk hz
      cases h
      simp only [zeroT, Option.bind_eq_some_iff] at hz
      obtain ⟨zv, ⟨inf, hinf, hiz⟩, hzv⟩ := hz
      exact ⟨k, e, hu, hk, rfl, zv, fun w => by simp [zeroValue, run_typeInfo' hinf, hiz], fun φ => absC_VR hzv⟩
    · cases h
  · cases h

theorem run_findKeyB {φ : Emb} {kt : TypeId} {ks : List CK} (hf : flatK P 100 kt = some ks) {k : AV} (hk : keyOk ks (isStructT P kt) k = true) {v : Value} (hv : VR φ k v) (w : World)
    {es : List (AV × AV × Nat)} {l : List MapEntry} {r : Option (Nat × AV)} (h : ERs φ es l) (hfk : findKey ks k es 0 = some r) :
    ∃ r', (Instr.findKey kt v l).run P w = .ok r' w ∧
        (match r with
         | none => r' = none
         | some (j, x) => ∃ x' e, r' = some (j, x') ∧ VR φ x x' ∧ l[j]? = some e ∧ e.key = v ∧ e.val = x') := by
  obtain ⟨r', h1, h2, h3⟩ := run_findKeyA hf hk hv w 0 h hfk
  have hd : ∃ d, P.underlying kt = some d := by
    cases hu : P.underlying kt with
    | none =>
      rw [show flatK P 100 kt = none by unfold flatK; simp [hu]] at hf
      cases hf
    | some d => exact ⟨d, rfl⟩
  obtain ⟨d, hd⟩ := hd
  refine ⟨r', ?_, ?_⟩
  · simp only [Instr.findKey, Sem.run_bind, run_underlying hd, Result.andThen_ok]
    cases hfn : Instr.findNow d v l 0 with
    | none => exact h1
    | some s => rw [h2 d hd s hfn]; rfl
  · cases r with
    | none => exact h3
    | some p =>
      obtain ⟨j, x⟩ := p
      obtain ⟨x', e, j1, j2, j3, j4, j5, j6⟩ := h3
      exact ⟨x', e, j1, j2, by simpa using j4, j5, j6⟩

theorem run_checkKeyB {φ : Emb} {kt : TypeId} {ks : List CK} (hf : flatK P 100 kt = some ks) {k : AV} (hk : keyOk ks (isStructT P kt) k = true) {v : Value} (hv : VR φ k v) (em : Bool) (w : World) :
    (Instr.checkKey em 10000 kt v).run P w = .ok () w := by
  obtain ⟨_, hkk, hok⟩ := keyOk_shape hk
  have := run_checkKey_flat (P := P) em 9900 100 kt ks hf φ _ _ w (hv.cells hok) hkk
  rw [← key_mkV hk hv] at this
  exact this

theorem ok_lookup {t : TypeId} {x i : Operand} {c : Bool} (hop : o.op = .lookup t x i c) (h : trOp P o.op = some ao) : OpOk P o ao := by
  intro φ w0 T H a w v H' hT hR he
  rw [hop] at h
  simp only [trOp] at h
  split at h
  · rename_i ks ag z x' i' hm hx hi
    cases h
    obtain ⟨kt, et, hu, hf, rfl, zv, hz, hzv⟩ := mapT_run hm
    have hvx := ev_VR hT hR hx
    have hvi := ev_VR hT hR hi
    simp only [opF] at he
    split at he
    · rename_i hk
      have fin : ∀ (es : List (AV × AV × Nat)) (l : Array MapEntry), ERs φ es l.toList →
          (execOp a.eval o).run P w = (((do
            Instr.checkKey l.isEmpty 10000 kt (a.eval i)
            let (v, ok) ← match ← Instr.findKey kt (a.eval i) l.toList with
              | some (_, v) => pure (v, true)
              | none => pure (← zeroValue et, false)
            pure (if c then .tuple #[v, .bool ok] else v) : Sem Value)).run P w).andThen (fun v w => .ok (.value v) w) →
          (match findKey ks (ev T i') es 0 with
            | none => none
            | some r =>
              let (v, b) := match r with | some (_, v) => (v, true) | none => (z, false)
              some (if c then .tuple [v, .bool b] else v, H)) = some (v, H') →
          ∃ φ' v' w', Res ((execOp a.eval o).run P w) v' w' ∧ Step φ H φ' H' ∧ VR φ' v v' ∧ Rel φ' w0 H' w' := by
        intro es l hE hex he
        have hck := run_checkKeyB (P := P) hf hk hvi l.isEmpty w
        split at he
        · cases he
        · rename_i r hr
          obtain ⟨r', h1, h2⟩ := run_findKeyB (P := P) hf hk hvi w hE hr
          cases r with
          | none =>
            subst h2
            simp only at he
            cases he
            cases c
            · exact OpOk.same rfl hR (v' := zv) (by rw [hex]; simp [hck, h1, hz w]) (hzv φ)
            · exact OpOk.same rfl hR (v' := .tuple #[zv, .bool false]) (by rw [hex]; simp [hck, h1, hz w]) ⟨_, rfl, VRs.cons (hzv φ) (VRs.cons rfl VRs.nil)⟩
          | some p =>
            obtain ⟨j, y⟩ := p
            obtain ⟨y', e, rfl, hy, _⟩ := h2
            simp only at he
            cases he
            cases c
            · exact OpOk.same rfl hR (v' := y') (by rw [hex]; simp [hck, h1]) hy
            · exact OpOk.same rfl hR (v' := .tuple #[y', .bool true]) (by rw [hex]; simp [hck, h1]) ⟨_, rfl, VRs.cons hy (VRs.cons rfl VRs.nil)⟩
      split at he
      · cases he
      · rename_i es hes
        split at hes
        · rename_i hxn
          cases hes
          rw [hxn] at hvx
          have hvx : a.eval x = .map none := hvx
          refine fin [] #[] rfl ?_ he
          simp only [execOp, hop, Instr.lookup, hvx, Sem.run_bind, run_underlying hu, Result.andThen_ok, Sem.run_pure]
          rfl
        · rename_i j hxj
          rw [hxj] at hvx
          obtain ⟨lc, hl, hbx⟩ := hvx
          split at hes
          · rename_i es' cl hB
            cases hes
            obtain ⟨hd, l, hh, hb, hks, hvs⟩ := hR.blk j _ lc hB hl
            refine fin es l (ERs_of hb hks hvs) ?_ he
            simp only [execOp, hop, Instr.lookup, hbx, Sem.run_bind, run_underlying hu, Result.andThen_ok, Sem.run_pure, MapKept.run_getObj_map hh]
            rfl
          · cases hes
        · cases hes
    · cases he
  · cases h

/-- The map's block takes other entries. -/
theorem Rel.setMap {φ : Emb} {w0 w : World} {H : AHeap} (hR : Rel φ w0 H w) {k : Nat} {l : Loc} (hl : φ (.n k) = some l) (hd : l.dead = false) {es : List (AV × AV × Nat)} {c : Nat} {old : Array MapEntry} {oc : Nat}
    (hh : w.heap[l.blk]? = some (.map old oc)) {new : Array MapEntry} (hE : ERs φ es new.toList) :
    (setObj l.blk (.map new c)).run P w = .ok () { w with heap := w.heap.setIfInBounds l.blk (.map new c) } ∧ Rel φ w0 (H.setN k (.map es c)) { w with heap := w.heap.setIfInBounds l.blk (.map new c) } := by
  refine ⟨MapKept.run_setObj_map _ hh, ?_⟩
  obtain ⟨h1, h2⟩ := MapKept.heap_set (o' := .map new c) hh
  exact hR.setN k _ l hl hd ⟨new, h1, hE.born, hE.keys, hE.vals⟩ h2 (by simp) rfl rfl rfl

theorem ok_mapSet {t : TypeId} {m k x : Operand} (hop : o.op = .mapUpdate t m k x ∨ o.op = .insert t m k x) (h : trOp P o.op = some ao) : OpOk P o ao := by
  intro φ w0 T H a w v H' hT hR he
  have h' : (match mapT P t, trX m, trX k, trX x with
    | some (ks, ag, _), some a, some b, some v => some (AOp.mapSet ks ag a b v)
    | _, _, _, _ => none) = some ao := by
    rcases hop with e | e <;> rw [e] at h <;> exact h
  have hex : (execOp a.eval o).run P w = ((Instr.mapUpdate t (a.eval m) (a.eval k) (a.eval x)).run P w).andThen fun _ w => .ok .skip w := by
    rcases hop with e | e <;> simp only [execOp, e, Sem.run_bind, Sem.run_pure]
  split at h'
  · rename_i ks ag z m' k' x' hm hx hi hv
    cases h'
    obtain ⟨kt, et, hu, hf, rfl, zv, hz, hzv⟩ := mapT_run hm
    have hvm := ev_VR hT hR hx
    have hvk := ev_VR hT hR hi
    have hvx := ev_VR hT hR hv
    simp only [opF] at he
    split at he
    · rename_i hk
      have hck := run_checkKeyB (P := P) hf hk hvk false w
      split at he
      · rename_i j hj
        rw [hj] at hvm
        obtain ⟨lc, hl, hbm⟩ := hvm
        split at he
        · rename_i es c hB
          obtain ⟨hd, l, hh, hb, hks, hvs⟩ := hR.blk (.n j) _ lc hB hl
          have hE := ERs_of hb hks hvs
          split at he
          · cases he
          · rename_i q y hfk
            cases he
            obtain ⟨r', h1, y', e, rfl, _, h3, h4, _⟩ := run_findKeyB (P := P) hf hk hvk w hE hfk
            have hE' : ERs φ (es.modify q fun e => (ev T k', ev T x', e.2.2)) (l.modify q fun e => { e with key := a.eval k, val := a.eval x }).toList := by
              rw [Array.toList_modify]
              exact ERs.modify (fun _ _ _ e _ _ h => ⟨hvk, hvx, h⟩) q hE
            obtain ⟨g1, g2⟩ := hR.setMap (P := P) hl hd hh hE' (c := c)
            refine ⟨φ, undef, _, .inr ⟨?_, rfl⟩, Step.setN _ hl, ⟨_, rfl, VRs.nil⟩, g2⟩
            have hst := run_keyStays (P := P) hk hvk w
            have hle : (l[q]?.map (·.key)).getD (a.eval k) = a.eval k := by
              rw [Array.getElem?_toList] at h3
              simp [h3, h4]
            rw [hex, hbm]
            simp only [Instr.mapUpdate, Sem.run_bind, run_underlying hu, Result.andThen_ok, MapKept.run_getObj_map hh, hck, h1, hle, hst, g1]
          · rename_i hfk
            cases he
            obtain ⟨r', h1, rfl⟩ := run_findKeyB (P := P) hf hk hvk w hE hfk
            have hE' : ERs φ (es ++ [(ev T k', ev T x', c)]) (l.push { key := a.eval k, val := a.eval x, born := c }).toList := by
              rw [Array.toList_push]
              exact hE.append ⟨_, _, rfl, hvk, hvx, rfl, rfl⟩
            obtain ⟨g1, g2⟩ := hR.setMap (P := P) hl hd hh hE' (c := c + 1)
            refine ⟨φ, undef, _, .inr ⟨?_, rfl⟩, Step.setN _ hl, ⟨_, rfl, VRs.nil⟩, g2⟩
            rw [hex, hbm]
            simp only [Instr.mapUpdate, Sem.run_bind, run_underlying hu, Result.andThen_ok, MapKept.run_getObj_map hh, hck, h1, g1]
        · cases he
      · cases he
    · cases he
  · cases h'

theorem ok_mapEntry {t : TypeId} {m k : Operand} (hop : o.op = .mapEntry t m k) (h : trOp P o.op = some ao) : OpOk P o ao := by
  intro φ w0 T H a w v H' hT hR he
  rw [hop] at h
  simp only [trOp] at h
  have hex : (execOp a.eval o).run P w = ((Instr.mapEntry t (a.eval m) (a.eval k)).run P w).andThen fun v w => .ok (.value v) w := by
    simp only [execOp, hop, Sem.run_bind, Sem.run_pure]
  split at h
  · rename_i ks ag z m' k' hm hx hi
    cases h
    obtain ⟨kt, et, hu, hf, rfl, zv, hz, hzv⟩ := mapT_run hm
    have hvm := ev_VR hT hR hx
    have hvk := ev_VR hT hR hi
    simp only [opF] at he
    split at he
    · rename_i hk
      have hck := run_checkKeyB (P := P) hf hk hvk false w
      split at he
      · rename_i j hj
        rw [hj] at hvm
        obtain ⟨lc, hl, hbm⟩ := hvm
        split at he
        · rename_i es c hB
          obtain ⟨hd, l, hh, hb, hks, hvs⟩ := hR.blk (.n j) _ lc hB hl
          have hE := ERs_of hb hks hvs
          split at he
          · cases he
          · rename_i q y hfk
            split at he
            · rename_i e0 he0
              cases he
              obtain ⟨r', h1, y', e, rfl, hy, h3, h4, _⟩ := run_findKeyB (P := P) hf hk hvk w hE hfk
              obtain ⟨e2, e3, _, _, hborn⟩ := hE.get (k := e0.1) (v := e0.2.1) (b := e0.2.2) he0
              rw [h3] at e3
              cases e3
              have hE' : ERs φ (es.modify q fun e => (ev T k', e.2)) (l.modify q fun e => { e with key := a.eval k }).toList := by
                rw [Array.toList_modify]
                exact ERs.modify (fun _ _ _ e _ h h' => ⟨hvk, h, h'⟩) q hE
              obtain ⟨g1, g2⟩ := hR.setMap (P := P) hl hd hh hE' (c := c)
              refine ⟨φ, .tuple #[y', goInt e0.2.2], _, .inl ?_, Step.setN _ hl, ⟨_, rfl, VRs.cons hy (VRs.cons rfl VRs.nil)⟩, g2⟩
              have hst := run_keyStays (P := P) hk hvk w
              rw [Array.getElem?_toList] at h3
              rw [hex, hbm]
              simp [Instr.mapEntry, run_underlying hu, MapKept.run_getObj_map hh, hck, h1, h3, h4, hst, g1, hborn]
            · cases he
          · rename_i hfk
            cases he
            obtain ⟨r', h1, rfl⟩ := run_findKeyB (P := P) hf hk hvk w hE hfk
            have hE' : ERs φ (es ++ [(ev T k', z, c)]) (l.push { key := a.eval k, val := zv, born := c }).toList := by
              rw [Array.toList_push]
              exact hE.append ⟨_, _, rfl, hvk, hzv φ, rfl, rfl⟩
            obtain ⟨g1, g2⟩ := hR.setMap (P := P) hl hd hh hE' (c := c + 1)
            refine ⟨φ, .tuple #[zv, goInt c], _, .inl ?_, Step.setN _ hl, ⟨_, rfl, VRs.cons (hzv φ) (VRs.cons rfl VRs.nil)⟩, g2⟩
            rw [hex, hbm]
            simp only [Instr.mapEntry, Sem.run_bind, run_underlying hu, Result.andThen_ok, MapKept.run_getObj_map hh, hck, h1, hz, g1, Sem.run_pure]
        · cases he
      · cases he
    · cases he
  · cases h

theorem findIdx_toList {α : Type} (l : Array α) (p : α → Bool) : l.findIdx? p = l.toList.findIdx? p := by cases l; simp
theorem findIdx_born {φ : Emb} {b : Int} : ∀ {es : List (AV × AV × Nat)} {l : List MapEntry}, ERs φ es l → l.findIdx? (fun e => (e.born : Int) == b) = es.findIdx? (fun e => decide ((e.2.2 : Int) = b))
  | [], l, h => by have h : l = [] := h; subst h; rfl
  | (k, v, c) :: es, l, h => by
    obtain ⟨e, r, rfl, h1, h2, h3, h4⟩ := h
    have ih := findIdx_born (b := b) h4
    simp only [List.findIdx?_cons, h3, ih]
    by_cases hc : (c : Int) = b
    · simp [hc]
    · simp [hc]

theorem ok_entryStore {t : TypeId} {m s x : Operand} (hop : o.op = .entryStore t m s x) (h : trOp P o.op = some ao) : OpOk P o ao := by
  intro φ w0 T H a w v H' hT hR he
  rw [hop] at h
  simp only [trOp] at h
  have hex : (execOp a.eval o).run P w = ((Instr.entryStore t (a.eval m) (a.eval s) (a.eval x)).run P w).andThen fun _ w => .ok .skip w := by
    simp only [execOp, hop, Sem.run_bind, Sem.run_pure]
  split at h
  · rename_i m' s' x' hm hs hx
    cases h
    have hvm := ev_VR hT hR hm
    have hvs := ev_VR hT hR hs
    have hvx := ev_VR hT hR hx
    simp only [opF] at he
    split at he
    · rename_i j k b hj hb
      rw [hj] at hvm
      rw [hb] at hvs
      obtain ⟨lc, hl, hbm⟩ := hvm
      have hvs : a.eval s = .int k b := hvs
      split at he
      · rename_i es c hB
        obtain ⟨hd, l, hh, hbn, hks, hvv⟩ := hR.blk (.n j) _ lc hB hl
        have hE := ERs_of hbn hks hvv
        split at he
        · rename_i q hq
          cases he
          have hE' : ERs φ (es.modify q fun e => (e.1, ev T x', e.2.2)) (l.modify q fun e => { e with val := a.eval x }).toList := by
            rw [Array.toList_modify]
            exact ERs.modify (fun _ _ _ e h _ h' => ⟨h, hvx, h'⟩) q hE
          obtain ⟨g1, g2⟩ := hR.setMap (P := P) hl hd hh hE' (c := c)
          refine ⟨φ, undef, _, .inr ⟨?_, rfl⟩, Step.setN _ hl, ⟨_, rfl, VRs.nil⟩, g2⟩
          have hfi : l.findIdx? (fun e => (e.born : Int) == b) = some q := by
            rw [findIdx_toList, findIdx_born hE, hq]
          rw [hex, hbm, hvs]
          simp only [Instr.entryStore, Sem.run_bind, Result.andThen_ok, MapKept.run_getObj_map hh, asInt, asIntOf, Sem.run_pure, hfi, g1]
        · cases he
      · cases he
    · cases he
  · cases h

theorem ok_delete {t u : TypeId} {m k : Operand} {args : Array Operand} {ats : Array TypeId} (hop : o.op = .call { callee := .builtin .delete, args := args, argTypes := ats })
    (hargs : args.toList = [m, k]) (hats : ats.toList = [t, u]) (h : trBuiltin P .delete [t, u] [m, k] = some ao) : OpOk P o ao := by
  intro φ w0 T H a w v H' hT hR he
  obtain rfl : args = #[m, k] := by rw [← Array.toList_inj]; exact hargs
  obtain rfl : ats = #[t, u] := by rw [← Array.toList_inj]; exact hats
  simp only [trBuiltin] at h
  have hex : (execOp a.eval o).run P w = ((Builtin.delete_ #[t, u] o.type #[a.eval m, a.eval k]).run P w).andThen fun v w => .ok (.value v) w :=
    run_builtin hop a w _ (fun cs => by simp [builtin])
  have hun : VR φ .undef (.tuple #[]) := ⟨_, rfl, VRs.nil⟩
  split at h
  · rename_i ks ag z m' k' hm hx hi
    cases h
    obtain ⟨kt, et, hu, hf, rfl, zv, hz, hzv⟩ := mapT_run hm
    have hvm := ev_VR hT hR hx
    have hvk := ev_VR hT hR hi
    simp only [opF] at he
    split at he
    · rename_i hk
      split at he
      · rename_i j hj
        rw [hj] at hvm
        obtain ⟨lc, hl, hbm⟩ := hvm
        split at he
        · rename_i es c hB
          obtain ⟨hd, l, hh, hb, hks, hvs⟩ := hR.blk (.n j) _ lc hB hl
          have hE := ERs_of hb hks hvs
          have hck := run_checkKeyB (P := P) hf hk hvk l.isEmpty w
          split at he
          · cases he
          · rename_i q y hfk
            cases he
            obtain ⟨r', h1, y', e, rfl, _, h3, h4, _⟩ := run_findKeyB (P := P) hf hk hvk w hE hfk
            have hE' : ERs φ (es.eraseIdx q) (l.eraseIdxIfInBounds q).toList := by
              rw [Array.toList_eraseIdxIfInBounds]
              exact hE.erase q
            obtain ⟨g1, g2⟩ := hR.setMap (P := P) hl hd hh hE' (c := c)
            refine ⟨φ, .tuple #[], _, .inl ?_, Step.setN _ hl, hun, g2⟩
            rw [hex, hbm]
            simp [Builtin.delete_, run_underlying hu, MapKept.run_getObj_map hh, hck, h1, g1]
          · rename_i hfk
            cases he
            obtain ⟨r', h1, rfl⟩ := run_findKeyB (P := P) hf hk hvk w hE hfk
            have hset := MapKept.run_setObj_map (P := P) (.map l c) hh
            have hsame : ({ w with heap := w.heap.setIfInBounds lc.blk (.map l c) } : World) = w := by
              have : w.heap.setIfInBounds lc.blk (.map l c) = w.heap := by
                apply Array.ext_getElem?
                intro q
                rw [Array.getElem?_setIfInBounds]
                split
                · rename_i e
                  subst e
                  split
                  · exact hh.symm
                  · rename_i hnl
                    rw [Array.getElem?_eq_none (by omega)] at hh
                    cases hh
                · rfl
              rw [this]
            rw [hsame] at hset
            refine OpOk.same rfl hR (v' := .tuple #[]) ?_ hun
            rw [hex, hbm]
            simp [Builtin.delete_, run_underlying hu, MapKept.run_getObj_map hh, hck, h1, hset]
        · cases he
      · cases he
    · cases he
  · cases h
end
end Go.AI
