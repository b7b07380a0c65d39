/- THE SECOND MACHINE, 12: copy, clear, len, max, min. Own work. -/
import Derived.Test.YtmjhiaedgpikdaaA11
import Derived.MapKept
set_option linter.unusedSimpArgs false
set_option linter.unusedVariables false
namespace Go.AI
section
variable {P : Program} {o : Oper} {ao : AOp}

theorem ok_copy {t u : TypeId} {x y : Operand} {args : Array Operand} {ats : Array TypeId} (hop : o.op = .call { callee := .builtin .copy, args := args, argTypes := ats })
    (hargs : args.toList = [x, y]) (hats : ats.toList = [t, u]) (h : trBuiltin P .copy [t, u] [x, y] = some ao) : OpOk P o ao := by
  intro φ w0 T H a w v H' hT hR he
  obtain rfl : args = #[x, y] := by rw [← Array.toList_inj]; exact hargs
  obtain rfl : ats = #[t, u] := by rw [← Array.toList_inj]; exact hats
  simp only [trBuiltin] at h
  split at h
  · rename_i e e2 x' y' ht hu hx hy
    simp only [Option.map_eq_some_iff] at h
    obtain ⟨n, hn, rfl⟩ := h
    have hvx := ev_VR hT hR hx
    have hvy := ev_VR hT hR hy
    have hex : (execOp a.eval o).run P w = ((Builtin.copy_ #[t, u] o.type #[a.eval x, a.eval y]).run P w).andThen fun v w => .ok (.value v) w :=
      run_builtin hop a w _ (fun cs => by simp [builtin])
    simp only [opF] at he
    split at he
    · rename_i ld ls hld hls
      split at he
      · rename_i cs hcs
        have hmin : Nat.min ls ld ≤ ls := Nat.min_le_left _ _
        obtain ⟨vs, hvl, hvs, hfc⟩ := run_rows (P := P) hR hcs (fun m hm => by rw [hls] at hm; cases hm; exact hmin) hvy
        have hl1 := run_lenOf (P := P) hls hvy w
        have hl2 := hfc w rfl
        split at he
        · rename_i i off len cap tail hxs
          rw [hxs] at hvx
          obtain ⟨hle, l, hl, b, c, hbx, hcc, ha⟩ := hvx
          simp only [Option.map_eq_some_iff] at he
          obtain ⟨H1, hst, he⟩ := he
          cases he
          have hld' : ld = len := by rw [hxs] at hld; cases hld; rfl
          subst hld'
          obtain ⟨w', h1, h2, h3⟩ := hR.run_store hl hst hvs P b (fun hne => ha (by
            intro e0
            have e1 : ld = 0 := by omega
            have hlen := hvs.length
            rw [hvl, e1] at hlen
            simp at hlen
            exact hne hlen))
          refine ⟨φ, goInt (Nat.min ls ld : Nat), w', .inl ?_, h3, rfl, h2⟩
          rw [hex, hbx]
          simp [Builtin.copy_, run_underlying ht, hl1, run_sizeT hn, hl2, h1]
        · rename_i hns
          split at he
          · rename_i hnil
            cases he
            subst hnil
            have : vs = [] := List.eq_nil_of_length_eq_zero hvs.length.symm
            subst this
            unfold lenOf at hld
            split at hld
            · rename_i hxn
              cases hld
              rw [hxn] at hvx
              have hvx : a.eval x = .slice none 0 0 := hvx
              refine OpOk.same rfl hR (v' := goInt (Nat.min ls 0 : Nat)) ?_ rfl
              have e0 : Nat.min ls 0 = 0 := Nat.min_zero ls
              rw [e0] at hl2
              rw [hex, hvx]
              simp [Builtin.copy_, run_underlying ht, hl1, run_sizeT hn, hl2]
            · rename_i hxs
              exact (hns _ _ _ _ _ hxs).elim
            · cases hld
          · cases he
      · cases he
    · cases he
  · cases h

theorem ok_clear {t : TypeId} {x : Operand} {args : Array Operand} {ats : Array TypeId} (hop : o.op = .call { callee := .builtin .clear, args := args, argTypes := ats })
    (hargs : args.toList = [x]) (hats : ats.toList = [t]) (h : trBuiltin P .clear [t] [x] = some ao) : OpOk P o ao := by
  intro φ w0 T H a w v H' hT hR he
  obtain rfl : args = #[x] := by rw [← Array.toList_inj]; exact hargs
  obtain rfl : ats = #[t] := by rw [← Array.toList_inj]; exact hats
  simp only [trBuiltin] at h
  split at h
  · rename_i e x' ht hx
    simp only [Option.map_eq_some_iff] at h
    obtain ⟨z, hz, rfl⟩ := h
    obtain ⟨zv, i, hi, hiz, hsz, hzv⟩ := zeroCellsT_run hz
    have hvx := ev_VR hT hR hx
    have hex : (execOp a.eval o).run P w = ((Builtin.clear_ #[t] o.type #[a.eval x]).run P w).andThen fun v w => .ok (.value v) w :=
      run_builtin hop a w _ (fun cs => by simp [builtin])
    have hu : VR φ .undef (.tuple #[]) := ⟨_, rfl, VRs.nil⟩
    simp only [opF] at he
    split at he
    · rename_i hxn
      cases he
      rw [hxn] at hvx
      have hvx : a.eval x = .slice none 0 0 := hvx
      refine OpOk.same rfl hR (v' := .tuple #[]) ?_ hu
      rw [hex, hvx]
      simp [Builtin.clear_, run_underlying ht]
    · rename_i j off n cap tail hxs
      rw [hxs] at hvx
      obtain ⟨hle, l, hl, b, c, hbx, hcc, ha⟩ := hvx
      split at he
      · rename_i hn
        subst hn
        cases he
        refine OpOk.same rfl hR (v' := .tuple #[]) ?_ hu
        rw [hex, hbx]
        simp [Builtin.clear_, run_underlying ht]
      · rename_i hn
        simp only [Option.map_eq_some_iff] at he
        obtain ⟨H1, hst, he⟩ := he
        cases he
        have hzc : VRs φ (zeros z n) (Builtin.zeroCells zv.cells n).toList := zeros_cells (hzv φ) n _ rfl
        obtain ⟨w', h1, h2, h3⟩ := hR.run_store hl hst hzc P b (fun _ => ha (by omega))
        refine ⟨φ, .tuple #[], w', .inl ?_, h3, hu, h2⟩
        rw [hex, hbx]
        cases n with
        | zero => exact absurd rfl hn
        | succ n => simp [Builtin.clear_, run_underlying ht, zeroValue, run_typeInfo' hi, hiz, h1]
    · cases he
  · cases h

theorem ok_mx {x y : Operand} {args : Array Operand} {ats : Array TypeId} (hop : o.op = .call { callee := .builtin .max, args := args, argTypes := ats })
    (hargs : args.toList = [x, y]) (h : trBuiltin P .max ats.toList [x, y] = some ao) : OpOk P o ao := by
  intro φ w0 T H a w v H' hT hR he
  obtain rfl : args = #[x, y] := by rw [← Array.toList_inj]; exact hargs
  simp only [trBuiltin] at h
  split at h
  · rename_i x' y' hx hy
    cases h
    have hvx := ev_VR hT hR hx
    have hvy := ev_VR hT hR hy
    have hex : (execOp a.eval o).run P w = ((Builtin.max_ ats o.type #[a.eval x, a.eval y]).run P w).andThen fun v w => .ok (.value v) w :=
      run_builtin hop a w _ (fun cs => by simp [builtin])
    simp only [opF] at he
    split at he
    · rename_i k m j n hm hn
      cases he
      rw [hm] at hvx
      rw [hn] at hvy
      have hvx : a.eval x = _ := hvx
      have hvy : a.eval y = _ := hvy
      refine OpOk.same rfl hR (v' := .int k (if n > m then n else m)) ?_ rfl
      rw [hex, hvx, hvy]
      simp [Builtin.max_, Builtin.max2]
    · cases he
  · cases h
theorem ok_mn {x y : Operand} {args : Array Operand} {ats : Array TypeId} (hop : o.op = .call { callee := .builtin .min, args := args, argTypes := ats })
    (hargs : args.toList = [x, y]) (h : trBuiltin P .min ats.toList [x, y] = some ao) : OpOk P o ao := by
  intro φ w0 T H a w v H' hT hR he
  obtain rfl : args = #[x, y] := by rw [← Array.toList_inj]; exact hargs
  simp only [trBuiltin] at h
  split at h
  · rename_i x' y' hx hy
    cases h
    have hvx := ev_VR hT hR hx
    have hvy := ev_VR hT hR hy
    have hex : (execOp a.eval o).run P w = ((Builtin.min_ ats o.type #[a.eval x, a.eval y]).run P w).andThen fun v w => .ok (.value v) w :=
      run_builtin hop a w _ (fun cs => by simp [builtin])
    simp only [opF] at he
    split at he
    · rename_i k m j n hm hn
      cases he
      rw [hm] at hvx
      rw [hn] at hvy
      have hvx : a.eval x = _ := hvx
      have hvy : a.eval y = _ := hvy
      refine OpOk.same rfl hR (v' := .int k (if n < m then n else m)) ?_ rfl
      rw [hex, hvx, hvy]
      simp [Builtin.min_, Builtin.min2]
    · cases he
  · cases h

theorem ok_len {t : TypeId} {x : Operand} {args : Array Operand} {ats : Array TypeId} (hop : o.op = .call { callee := .builtin .len, args := args, argTypes := ats })
    (hargs : args.toList = [x]) (hats : ats.toList = [t]) (h : trBuiltin P .len [t] [x] = some ao) : OpOk P o ao := by
  intro φ w0 T H a w v H' hT hR he
  obtain rfl : args = #[x] := by rw [← Array.toList_inj]; exact hargs
  obtain rfl : ats = #[t] := by rw [← Array.toList_inj]; exact hats
  simp only [trBuiltin] at h
  have hex : (execOp a.eval o).run P w = ((Builtin.len_ #[t] o.type #[a.eval x]).run P w).andThen fun v w => .ok (.value v) w :=
    run_builtin hop a w _ (fun cs => by simp [builtin])
  split at h
  · rename_i x' e hx ht
    cases h
    have hvx := ev_VR hT hR hx
    simp only [opF] at he
    split at he
    · rename_i hxn
      cases he
      rw [hxn] at hvx
      have hvx : a.eval x = .slice none 0 0 := hvx
      refine OpOk.same rfl hR (v' := goInt 0) ?_ rfl
      rw [hex, hvx]
      simp [Builtin.len_, run_underlying ht]
    · rename_i i off n cap tail hxs
      cases he
      rw [hxs] at hvx
      obtain ⟨hle, l, hl, b, c, hbx, hcc, ha⟩ := hvx
      refine OpOk.same rfl hR (v' := goInt n) ?_ rfl
      rw [hex, hbx]
      simp [Builtin.len_, run_underlying ht]
    · cases he
  · rename_i x' hx ht
    cases h
    have hvx := ev_VR hT hR hx
    simp only [opF] at he
    split at he
    · rename_i s hxs
      cases he
      rw [hxs] at hvx
      have hvx : a.eval x = .string s := hvx
      refine OpOk.same rfl hR (v' := goInt s.size) ?_ rfl
      rw [hex, hvx]
      simp [Builtin.len_, run_underlying ht]
    · cases he
  · rename_i x' k e hx ht
    cases h
    have hvx := ev_VR hT hR hx
    simp only [opF] at he
    split at he
    · rename_i hxn
      cases he
      rw [hxn] at hvx
      have hvx : a.eval x = .map none := hvx
      refine OpOk.same rfl hR (v' := goInt 0) ?_ rfl
      rw [hex, hvx]
      simp [Builtin.len_, run_underlying ht]
    · rename_i i hxi
      split at he
      · rename_i es c hes
        cases he
        rw [hxi] at hvx
        obtain ⟨l, hl, hbx⟩ := hvx
        obtain ⟨hd, es', hh, hb, _⟩ := hR.blk i _ l hes hl
        have hlen : es'.size = es.length := by
          have := congrArg List.length hb
          simpa using this
        refine OpOk.same rfl hR (v' := goInt es.length) ?_ rfl
        rw [hex, hbx]
        simp [Builtin.len_, run_underlying ht, MapKept.run_getObj_map hh, hlen]
      · cases he
    · cases he
  · rename_i x' n e hx ht
    cases h
    simp only [opF] at he
    cases he
    refine OpOk.same rfl hR (v' := goInt n) ?_ rfl
    rw [hex]
    cases hv : a.eval x <;> simp [Builtin.len_, run_underlying ht]
  · cases h
end
end Go.AI
