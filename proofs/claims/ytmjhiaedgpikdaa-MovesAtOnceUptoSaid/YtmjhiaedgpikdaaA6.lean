/- THE SECOND MACHINE, 6: '==' on both sides. Own work. -/
import Derived.Test.YtmjhiaedgpikdaaA5
import Derived.Laws.StructEq
import Derived.Laws.Cover3
import Derived.WalkSpells
set_option linter.unusedSimpArgs false
set_option linter.unusedVariables false
namespace Go.AI
section
variable {P : Program}

theorem run_typeInfo' {t : TypeId} {i : TypeInfo} (h : P.info? t = some i) (w : World) : (typeInfo t).run P w = .ok i w := by simp [typeInfo, h]
theorem run_sizeT {t : TypeId} {n : Nat} (h : sizeT P t = some n) (w : World) : (sizeOf t).run P w = .ok n w := by
  simp only [sizeT, Option.map_eq_some_iff] at h
  obtain ⟨i, hi, rfl⟩ := h
  simp [sizeOf, run_typeInfo' hi]
theorem run_zeroT {t : TypeId} {v : Value} (h : (P.info? t).bind (·.zero) = some v) (w : World) : (zeroValue t).run P w = .ok v w := by
  simp only [Option.bind_eq_some_iff] at h
  obtain ⟨i, hi, hz⟩ := h
  simp [zeroValue, run_typeInfo' hi, hz]

theorem cellEq_VR {φ : Emb} {k : CK} {a b : AV} {r : Bool} (h : cellEq k a b = some r) {v u : Value} (hv : VR φ a v) (hu : VR φ b u) :
    (∃ x y, k = .bool ∧ v = .bool x ∧ u = .bool y ∧ r = (x == y)) ∨ (∃ q x y, k = .int ∧ v = .int q x ∧ u = .int q y ∧ r = (x == y)) ∨ (∃ x y, k = .str ∧ v = .string x ∧ u = .string y ∧ r = (x.toList == y.toList)) := by
  unfold cellEq at h
  split at h
  · cases h; exact .inl ⟨_, _, rfl, hv, hu, rfl⟩
  · split at h
    · rename_i e; subst e; cases h; exact .inr (.inl ⟨_, _, _, rfl, hv, hu, rfl⟩)
    · cases h
  · cases h; exact .inr (.inr ⟨_, _, rfl, hv, hu, rfl⟩)
  · cases h

theorem cellsEq_len : ∀ {ks : List CK} {as bs : List AV} {r : Bool}, cellsEq ks as bs = some r → as.length = ks.length ∧ bs.length = ks.length
  | [], [], [], _, _ => ⟨rfl, rfl⟩
  | [], _ :: _, _, _, h => by simp [cellsEq] at h
  | [], [], _ :: _, _, h => by simp [cellsEq] at h
  | _ :: _, [], _, _, h => by simp [cellsEq] at h
  | _ :: _, _ :: _, [], _, h => by simp [cellsEq] at h
  | k :: ks, a :: as, b :: bs, r, h => by
    unfold cellsEq at h
    split at h
    · split at h
      · rename_i hy
        have := cellsEq_len hy
        simp [this.1, this.2]
      · cases h
    · cases h
theorem cellsEq_append : ∀ {ks : List CK} {ls : List CK} {as bs : List AV} {r : Bool}, cellsEq (ks ++ ls) as bs = some r →
    ∃ r1 r2, cellsEq ks (as.take ks.length) (bs.take ks.length) = some r1 ∧ cellsEq ls (as.drop ks.length) (bs.drop ks.length) = some r2 ∧ r = (r1 && r2)
  | [], ls, as, bs, r, h => ⟨true, r, by simp [cellsEq], by simpa using h, by simp⟩
  | k :: ks, ls, [], bs, r, h => by simp [cellsEq] at h
  | k :: ks, ls, a :: as, [], r, h => by simp [cellsEq] at h
  | k :: ks, ls, a :: as, b :: bs, r, h => by
    simp only [List.cons_append, cellsEq] at h
    cases hx : cellEq k a b with
    | none => simp [hx] at h
    | some x =>
      cases hy : cellsEq (ks ++ ls) as bs with
      | none => simp [hx, hy] at h
      | some y =>
        simp only [hx, hy] at h
        cases h
        obtain ⟨r1, r2, h1, h2, h3⟩ := cellsEq_append hy
        refine ⟨x && r1, r2, ?_, by simpa using h2, by rw [h3, Bool.and_assoc]⟩
        simp [cellsEq, hx, h1]

/-- A value of a flat type, by its cells. -/
def mkV (P : Program) (t : TypeId) (cs : List Value) : Value :=
  match P.underlying t with
  | some (.struct _) => .agg cs.toArray
  | _ => cs.headD undef

theorem flatK_size {d : Nat} {t : TypeId} {ks : List CK} (h : flatK P d t = some ks) : sizeT P t = some ks.length := by
  cases d with
  | zero => simp [flatK] at h
  | succ d =>
    unfold flatK at h
    split at h
    · rename_i hs; cases h; exact hs
    · rename_i hs; cases h; exact hs
    · rename_i hs; cases h; exact hs
    · rename_i fs n hu hs
      split at h
      · cases h
      · split at h
        · split at h
          · rename_i hn; cases h; rw [hn]; exact hs
          · cases h
        · cases h
    · cases h

theorem run_part_flat {d : Nat} {t : TypeId} {ks : List CK} (h : flatK P d t = some ks) (cs : Array Value) (o : Nat) (hlen : o + ks.length ≤ cs.size) (w : World) :
    (part t cs o).run P w = .ok (mkV P t ((cs.toList.drop o).take ks.length)) w := by
  have hs := flatK_size h
  cases d with
  | zero => simp [flatK] at h
  | succ d =>
    unfold flatK at h
    have one : ks.length = 1 → P.underlying t = some .bool ∨ (∃ k, P.underlying t = some (.int k)) ∨ P.underlying t = some .string → (part t cs o).run P w = .ok (mkV P t ((cs.toList.drop o).take ks.length)) w := by
      intro h1 hu
      rw [h1] at hlen ⊢
      have hlt : o < cs.size := by omega
      have he : ((cs.toList.drop o).take 1).headD undef = cs[o] := by
        rw [List.drop_eq_getElem_cons (by simpa using hlt)]
        simp
      rcases hu with hu | ⟨k, hu⟩ | hu <;> (simp only [mkV, hu, he]; simp [part, isAgg, run_underlying hu, hlt])
    split at h
    · rename_i hu _; cases h; exact one rfl (.inl hu)
    · rename_i hu _; cases h; exact one rfl (.inr (.inl ⟨_, hu⟩))
    · rename_i hu _; cases h; exact one rfl (.inr (.inr hu))
    · rename_i fs n hu hs'
      simp only [part, isAgg, Sem.run_bind, run_underlying hu, Result.andThen_ok, Sem.run_pure, if_true, run_sizeT hs, mkV, hu]
      congr 2
      apply Array.ext'
      rw [Array.toList_extract]
      simp [List.extract]
    · cases h

theorem run_eq_flat (d : Nat) : ∀ (m : Nat) (t : TypeId) (ks : List CK), flatK P m t = some ks → ∀ (φ : Emb) (as bs : List AV) (cs ds : List Value) (r : Bool) (w : World),
    VRs φ as cs → VRs φ bs ds → cellsEq ks as bs = some r → (Op.equalIn (d + m) t (mkV P t cs) (mkV P t ds)).run P w = .ok r w := by
  intro m
  induction m with
  | zero => intro t ks h; simp [flatK] at h
  | succ m ih =>
    intro t ks h φ as bs cs ds r w hc hd he
    rw [show d + (m + 1) = d + m + 1 from rfl]
    unfold flatK at h
    have one : ∀ k, ks = [k] → ∃ a b v u, cs = [v] ∧ ds = [u] ∧ VR φ a v ∧ VR φ b u ∧ cellEq k a b = some r := by
      intro k hk
      subst hk
      have hl := cellsEq_len he
      obtain ⟨a, rfl⟩ := List.length_eq_one_iff.1 hl.1
      obtain ⟨b, rfl⟩ := List.length_eq_one_iff.1 hl.2
      obtain ⟨v, rfl, hv⟩ := VRs.one_iff.1 hc
      obtain ⟨u, rfl, hu⟩ := VRs.one_iff.1 hd
      refine ⟨a, b, v, u, rfl, rfl, hv, hu, ?_⟩
      unfold cellsEq at he
      split at he
      · rename_i x hx
        simp only [cellsEq] at he
        cases he
        simpa using hx
      · cases he
    split at h
    · rename_i hu hs
      cases h
      obtain ⟨a, b, v, u, rfl, rfl, hv, hu', hce⟩ := one _ rfl
      rcases cellEq_VR hce hv hu' with ⟨x, y, _, rfl, rfl, rfl⟩ | ⟨q, x, y, hk, _⟩ | ⟨x, y, hk, _⟩
      · simp only [mkV, hu, List.headD_cons]
        exact run_equalIn_bool' w _ t x y hu
      · cases hk
      · cases hk
    · rename_i hu hs
      cases h
      obtain ⟨a, b, v, u, rfl, rfl, hv, hu', hce⟩ := one _ rfl
      rcases cellEq_VR hce hv hu' with ⟨x, y, hk, _⟩ | ⟨q, x, y, hk, rfl, rfl, rfl⟩ | ⟨x, y, hk, _⟩
      · cases hk
      · simp only [mkV, hu, List.headD_cons]
        exact run_equalIn_int w _ t q _ x y hu
      · cases hk
    · rename_i hu hs
      cases h
      obtain ⟨a, b, v, u, rfl, rfl, hv, hu', hce⟩ := one _ rfl
      rcases cellEq_VR hce hv hu' with ⟨x, y, hk, _⟩ | ⟨q, x, y, hk, _⟩ | ⟨x, y, hk, rfl, rfl, rfl⟩
      · cases hk
      · cases hk
      · simp only [mkV, hu, List.headD_cons]
        exact run_equalIn_string w _ t x y hu
    · rename_i fs n hu hs
      split at h
      · cases h
      · rename_i hst
        split at h
        · rename_i ks' hfs
          split at h
          · rename_i hn
            cases h
            have hf : P.fieldsOf t = fs := by simp [Program.fieldsOf, hu]
            have hmk : ∀ l, mkV P t l = .agg l.toArray := fun l => by simp [mkV, hu]
            rw [hmk, hmk, run_equalIn_struct w (d + m) t _ _ (by rw [hf]; exact hu) (by simpa using hst), hf]
            have hla := cellsEq_len he
            have hlc : cs.length = ks.length := by rw [← hc.length]; exact hla.1
            have hld : ds.length = ks.length := by rw [← hd.length]; exact hla.2
            -- the fields, one behind the other
            have key : ∀ (l : List Field) (o : Nat) (ls : List CK) (s : Bool), flatFs (flatK P m) l o = some ls → o + ls.length = ks.length →
                cellsEq ls (as.drop o) (bs.drop o) = some s → (Op.eqFields (d + m) cs.toArray ds.toArray l).run P w = .ok s w := by
              intro l
              induction l with
              | nil =>
                intro o ls s hfl hlen hce
                simp only [flatFs] at hfl
                cases hfl
                have e1 : as.drop o = [] := List.drop_eq_nil_of_le (by rw [hla.1]; simp at hlen; omega)
                have e2 : bs.drop o = [] := List.drop_eq_nil_of_le (by rw [hla.2]; simp at hlen; omega)
                rw [e1, e2] at hce
                simp only [cellsEq] at hce
                cases hce
                simp [Op.eqFields]
              | cons f l ihl =>
                intro o ls s hfl hlen hce
                unfold flatFs at hfl
                split at hfl
                · cases hfl
                · rename_i hno
                  have hname : f.name ≠ "_" := fun e => hno (.inl e)
                  have hoff : f.offset = o := Classical.byContradiction fun e => hno (.inr e)
                  cases hk1 : flatK P m f.type with
                  | none => simp [hk1] at hfl
                  | some k1 =>
                    simp only [hk1] at hfl
                    cases hk2 : flatFs (flatK P m) l (o + k1.length) with
                    | none => simp [hk2] at hfl
                    | some k2 =>
                      simp only [hk2] at hfl
                      cases hfl
                      rw [List.length_append] at hlen
                      obtain ⟨r1, r2, h1, h2, rfl⟩ := cellsEq_append hce
                      have hp1 := run_part_flat hk1 cs.toArray o (by simp only [List.size_toArray]; omega) w
                      have hp2 := run_part_flat hk1 ds.toArray o (by simp only [List.size_toArray]; omega) w
                      have he1 := ih f.type k1 hk1 φ _ _ _ _ r1 w ((hc.drop o).take k1.length) ((hd.drop o).take k1.length) h1
                      rw [List.drop_drop, List.drop_drop] at h2
                      have he2 := ihl (o + k1.length) k2 r2 hk2 (by omega) h2
                      simp only [Op.eqFields, ne_eq, hname, not_false_eq_true, if_true, Sem.run_bind, hoff, hp1, hp2, Result.andThen_ok, he1]
                      cases r1
                      · simp
                      · simpa using he2
            exact key fs.toList 0 ks r hfs (by omega) (by simpa using he)
          · cases h
        · cases h
    · cases h
end
end Go.AI
