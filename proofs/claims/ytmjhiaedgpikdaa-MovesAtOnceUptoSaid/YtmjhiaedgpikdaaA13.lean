/- THE SECOND MACHINE, 13: maps, on both sides. Own work. -/
import Derived.Test.YtmjhiaedgpikdaaA12
set_option linter.unusedSimpArgs false
set_option linter.unusedVariables false
namespace Go.AI
section
variable {P : Program} {o : Oper} {ao : AOp}

/-- A key of flat kind. -/
theorem kindsOk_len : ∀ {ks : List CK} {as : List AV}, kindsOk ks as = true → as.length = ks.length
  | [], [], _ => rfl
  | [], _ :: _, h => by simp [kindsOk] at h
  | k :: ks, [], h => by cases k <;> simp [kindsOk] at h
  | k :: ks, a :: as, h => by
    cases k <;> cases a <;> simp only [kindsOk, Bool.false_eq_true] at h <;> simp [kindsOk_len h]
theorem kindsOk_append : ∀ {ks ls : List CK} {as : List AV}, kindsOk (ks ++ ls) as = true → kindsOk ks (as.take ks.length) = true ∧ kindsOk ls (as.drop ks.length) = true
  | [], ls, as, h => by simpa [kindsOk] using h
  | k :: ks, ls, [], h => by cases k <;> simp [kindsOk] at h
  | k :: ks, ls, a :: as, h => by
    cases k <;> cases a <;> simp only [List.cons_append, kindsOk, Bool.false_eq_true] at h <;> simpa [kindsOk] using kindsOk_append h

theorem run_checkKey_flat (em : Bool) (d : Nat) : ∀ (m : Nat) (t : TypeId) (ks : List CK), flatK P m t = some ks → ∀ (φ : Emb) (as : List AV) (cs : List Value) (w : World),
    VRs φ as cs → kindsOk ks as = true → (Instr.checkKey em (d + m) t (mkV P t cs)).run P w = .ok () w := by
  intro m
  induction m with
  | zero => intro t ks h; simp [flatK] at h
  | succ m ih =>
    intro t ks h φ as cs w hc hk
    rw [show d + (m + 1) = d + m + 1 from rfl]
    unfold flatK at h
    split at h
    · rename_i hu _
      simp [Instr.checkKey, run_underlying hu]
    · rename_i hu _
      simp [Instr.checkKey, run_underlying hu]
    · rename_i hu _
      simp [Instr.checkKey, run_underlying hu]
    · rename_i fs n hu hs
      split at h
      · cases h
      · split at h
        · rename_i ks' hfs
          split at h
          · rename_i hn
            cases h
            have hla := kindsOk_len hk
            have hlc : cs.length = ks.length := by rw [← hc.length]; exact hla
            have hmk : mkV P t cs = .agg cs.toArray := by simp [mkV, hu]
            rw [hmk, Instr.checkKey]
            simp only [Sem.run_bind, run_underlying hu, Result.andThen_ok]
            rw [← Array.forIn_toList]
            have key : ∀ (l : List Field) (o : Nat) (ls : List CK), flatFs (flatK P m) l o = some ls → o + ls.length = ks.length → kindsOk ls (as.drop o) = true →
                (forIn l PUnit.unit (fun (f : Field) (_ : PUnit) => (do
                  if f.name ≠ "_" then
                    Instr.checkKey em (d + m) f.type (← part f.type cs.toArray f.offset)
                    pure (ForInStep.yield PUnit.unit)
                  else pure (ForInStep.yield PUnit.unit) : Sem (ForInStep PUnit)))).run P w = .ok PUnit.unit w := by
              intro l
              induction l with
              | nil => intro o ls _ _ _; simp
              | cons f l ihl =>
                intro o ls hfl hlen hkk
                unfold flatFs at hfl
                split at hfl
                · cases hfl
                · rename_i hno
                  have hname : f.name ≠ "_" := fun e => hno (.inl e)
                  have hoff : f.offset = o := Classical.byContradiction fun e => hno (.inr e)
                  cases hk1 : flatK P m f.type with
                  | none => simp [hk1] at hfl
                  | some k1 =>
                    simp only [hk1] at hfl
                    cases hk2 : flatFs (flatK P m) l (o + k1.length) with
                    | none => simp [hk2] at hfl
                    | some k2 =>
                      simp only [hk2] at hfl
                      cases hfl
                      rw [List.length_append] at hlen
                      obtain ⟨h1, h2⟩ := kindsOk_append hkk
                      have hp1 := run_part_flat hk1 cs.toArray o (by simp only [List.size_toArray]; omega) w
                      have he1 := ih f.type k1 hk1 φ _ _ w ((hc.drop o).take k1.length) h1
                      rw [List.drop_drop] at h2
                      have he2 := ihl (o + k1.length) k2 hk2 (by omega) h2
                      simp only [List.forIn_cons, ne_eq, hname, not_false_eq_true, if_true, Sem.run_bind, hoff, hp1, Result.andThen_ok, he1, Sem.run_pure]
                      exact he2
            have hkey := key fs.toList 0 ks hfs (by omega) (by simpa using hk)
            rw [hkey]
            rfl
          · cases h
        · cases h
    · cases h

theorem bytes_beq_self (s : ByteArray) : (s == s) = true := (MapKept.bytes_beq s s).2 rfl

/-- A key is a struct of cells or one cell. -/
theorem keyOk_shape {ks : List CK} {ag : Bool} {k : AV} (h : keyOk ks ag k = true) : aggV k = ag ∧ kindsOk ks k.cells = true ∧ k.ok = true := by
  simp only [keyOk, Bool.and_eq_true, beq_iff_eq] at h
  refine ⟨h.1, h.2, ?_⟩
  cases k <;> first | rfl | skip
  have := h.2
  simp only [AV.cells] at this
  cases ks with
  | nil => simp [kindsOk] at this
  | cons c ks => cases c <;> simp [kindsOk] at this
theorem key_mkV {φ : Emb} {kt : TypeId} {ks : List CK} {k : AV} (hk : keyOk ks (isStructT P kt) k = true) {v : Value} (hv : VR φ k v) : v = mkV P kt v.cells.toList := by
  obtain ⟨ha, hkk, _⟩ := keyOk_shape hk
  unfold mkV
  unfold isStructT at ha
  have scalar : aggV k = false → v.cells.toList = [v] := by
    intro h0
    cases k <;> simp only [aggV, Bool.true_eq_false] at h0 <;> first
      | exact False.elim hv
      | (obtain ⟨l, _, rfl⟩ := hv; simp [Value.cells]; done)
      | (obtain ⟨_, l, _, b, c, rfl, _⟩ := hv; simp [Value.cells]; done)
      | (obtain ⟨b, c, rfl, _⟩ := hv; simp [Value.cells]; done)
      | (obtain ⟨b, rfl, _⟩ := hv; simp [Value.cells]; done)
      | (have hv' := hv; simp only [VR] at hv'; subst hv'; simp [Value.cells]; done)
      | skip
    simp only [AV.cells] at hkk
    cases ks with
    | nil => simp [kindsOk] at hkk
    | cons c ks => cases c <;> simp [kindsOk] at hkk
  split
  · rename_i fs hu
    rw [hu] at ha
    simp only at ha
    cases k <;> simp only [aggV, Bool.false_eq_true] at ha
    obtain ⟨cs, rfl, _⟩ := hv
    simp [Value.cells]
  · rename_i hns
    have h0 : aggV k = false := by
      rw [ha]
      split
      · rename_i fs hu; exact absurd hu (hns fs)
      · rfl
    rw [scalar h0]
    rfl

/-- Cells told the same are the same. -/
theorem cellsEq_same {φ : Emb} : ∀ {ks : List CK} {as bs : List AV} {vs us : List Value}, cellsEq ks as bs = some true → VRs φ as vs → VRs φ bs us → vs = us
  | [], [], [], vs, us, _, h, k => by have h : vs = [] := h; have k : us = [] := k; rw [h, k]
  | [], _ :: _, _, _, _, h, _, _ => by simp [cellsEq] at h
  | [], [], _ :: _, _, _, h, _, _ => by simp [cellsEq] at h
  | _ :: _, [], _, _, _, h, _, _ => by simp [cellsEq] at h
  | _ :: _, _ :: _, [], _, _, h, _, _ => by simp [cellsEq] at h
  | k :: ks, a :: as, b :: bs, vs, us, h, hv, hu => by
    obtain ⟨v, vs, rfl, hv1, hv2⟩ := hv
    obtain ⟨u, us, rfl, hu1, hu2⟩ := hu
    unfold cellsEq at h
    split at h
    · rename_i x hx
      split at h
      · rename_i y hy
        simp only [Option.some.injEq, Bool.and_eq_true] at h
        obtain ⟨rfl, rfl⟩ := h
        have ht := cellsEq_same hy hv2 hu2
        have hh : v = u := by
          rcases cellEq_VR hx hv1 hu1 with ⟨x, y, _, rfl, rfl, e⟩ | ⟨q, x, y, _, rfl, rfl, e⟩ | ⟨x, y, _, rfl, rfl, e⟩
          · rw [show x = y by simpa using e.symm]
          · rw [show x = y by simpa using e.symm]
          · have : (x == y) = true := by rw [beq_toListBytes]; exact e.symm
            rw [MapKept.bytes_beq] at this
            rw [this]
        rw [hh, ht]
      · cases h
    · cases h

theorem cellsEq_of_same {φ : Emb} : ∀ {ks : List CK} {as bs : List AV} {vs : List Value} {r : Bool}, cellsEq ks as bs = some r → VRs φ as vs → VRs φ bs vs → r = true
  | [], [], [], _, _, h, _, _ => by simp only [cellsEq] at h; cases h; rfl
  | [], _ :: _, _, _, _, h, _, _ => by simp [cellsEq] at h
  | [], [], _ :: _, _, _, h, _, _ => by simp [cellsEq] at h
  | _ :: _, [], _, _, _, h, _, _ => by simp [cellsEq] at h
  | _ :: _, _ :: _, [], _, _, h, _, _ => by simp [cellsEq] at h
  | k :: ks, a :: as, b :: bs, vs, r, h, hv, hu => by
    obtain ⟨v, vs, rfl, hv1, hv2⟩ := hv
    obtain ⟨hu1, hu2⟩ := VRs.cons_iff.1 hu
    unfold cellsEq at h
    split at h
    · rename_i x hx
      split at h
      · rename_i y hy
        have ht := cellsEq_of_same hy hv2 hu2
        have hh : x = true := by
          rcases cellEq_VR hx hv1 hu1 with ⟨x, y, _, rfl, e1, e⟩ | ⟨q, x, y, _, rfl, e1, e⟩ | ⟨x, y, _, rfl, e1, e⟩ <;> (cases e1; rw [e]; simp)
        cases h
        rw [hh, ht]
        rfl
      · cases h
    · cases h

theorem sameBits_flat : ∀ {ks : List CK} {as : List AV} {φ : Emb} {vs : List Value}, kindsOk ks as = true → VRs φ as vs → ∀ n, (vs.zip vs).all (fun (x, y) => Instr.sameBits n x y) = true
  | [], [], _, vs, _, h, _ => by have h : vs = [] := h; subst h; rfl
  | [], _ :: _, _, _, h, _, _ => by simp [kindsOk] at h
  | k :: ks, [], _, _, h, _, _ => by cases k <;> simp [kindsOk] at h
  | k :: ks, a :: as, φ, vs, h, hv, n => by
    obtain ⟨v, vs, rfl, h1, h2⟩ := hv
    cases k <;> cases a <;> simp only [kindsOk, Bool.false_eq_true] at h <;>
      (have h1' : v = _ := h1
       subst h1'
       simp only [List.zip_cons_cons, List.all_cons, sameBits_flat h h2 n, Bool.and_true]
       cases n <;> simp [Instr.sameBits, bytes_beq_self])
theorem run_keyStays {φ : Emb} {kt : TypeId} {ks : List CK} {k : AV} (hk : keyOk ks (isStructT P kt) k = true) {v : Value} (hv : VR φ k v) (w : World) : (Instr.keyThatStays v v).run P w = .ok v w := by
  obtain ⟨ha, hkk, hok⟩ := keyOk_shape hk
  have hc := hv.cells hok
  have hs : Instr.sameBits 10000 v v = true := by
    by_cases h0 : aggV k = true
    · cases k <;> simp only [aggV, Bool.false_eq_true] at h0
      obtain ⟨cs', rfl, _⟩ := hv
      have hall := sameBits_flat hkk hc 9999
      show (cs'.size == cs'.size && (cs'.toList.zip cs'.toList).all fun (x, y) => Instr.sameBits 9999 x y) = true
      simp only [beq_self_eq_true, Bool.true_and]
      exact hall
    · have hall := sameBits_flat hkk hc 10000
      have e : v.cells.toList = [v] := by
        have := key_mkV hk hv
        unfold mkV at this
        unfold isStructT at ha
        split at this
        · rename_i hu
          rw [hu] at ha
          exact absurd ha h0
        · have hl := hc.length
          cases k <;> first
            | (exact absurd rfl h0)
            | (simp only [AV.cells, List.length_singleton] at hl
               obtain ⟨y, hy⟩ := List.length_eq_one_iff.1 hl.symm
               rw [hy] at this
               rw [hy]
               simp at this
               rw [this])
      rw [e] at hall
      simpa using hall
  simp [Instr.keyThatStays, hs]

/-- The entries, side by side. -/
def ERs (φ : Emb) : List (AV × AV × Nat) → List MapEntry → Prop
  | [], l => l = []
  | (k, v, b) :: es, l => ∃ e r, l = e :: r ∧ VR φ k e.key ∧ VR φ v e.val ∧ e.born = b ∧ ERs φ es r
theorem ERs_of {φ : Emb} : ∀ {es : List (AV × AV × Nat)} {l : List MapEntry}, l.map (·.born) = es.map (·.2.2) → VRs φ (es.map (·.1)) (l.map (·.key)) → VRs φ (es.map (·.2.1)) (l.map (·.val)) → ERs φ es l
  | [], l, h, _, _ => by simpa [ERs] using h
  | (k, v, b) :: es, [], h, _, _ => by simp at h
  | (k, v, b) :: es, e :: r, h, h1, h2 => by
    simp only [List.map_cons, List.cons.injEq] at h
    simp only [List.map_cons, VRs.cons_iff] at h1 h2
    exact ⟨e, r, rfl, h1.1, h2.1, h.1, ERs_of h.2 h1.2 h2.2⟩
theorem ERs.born {φ : Emb} : ∀ {es : List (AV × AV × Nat)} {l : List MapEntry}, ERs φ es l → l.map (·.born) = es.map (·.2.2)
  | [], l, h => by have h : l = [] := h; subst h; rfl
  | (k, v, b) :: es, l, h => by obtain ⟨e, r, rfl, _, _, h3, h4⟩ := h; simp [h3, h4.born]
theorem ERs.keys {φ : Emb} : ∀ {es : List (AV × AV × Nat)} {l : List MapEntry}, ERs φ es l → VRs φ (es.map (·.1)) (l.map (·.key))
  | [], l, h => by have h : l = [] := h; subst h; exact VRs.nil
  | (k, v, b) :: es, l, h => by obtain ⟨e, r, rfl, h1, _, h3, h4⟩ := h; exact VRs.cons h1 h4.keys
theorem ERs.vals {φ : Emb} : ∀ {es : List (AV × AV × Nat)} {l : List MapEntry}, ERs φ es l → VRs φ (es.map (·.2.1)) (l.map (·.val))
  | [], l, h => by have h : l = [] := h; subst h; exact VRs.nil
  | (k, v, b) :: es, l, h => by obtain ⟨e, r, rfl, _, h2, h3, h4⟩ := h; exact VRs.cons h2 h4.vals
theorem ERs.append {φ : Emb} : ∀ {es fs : List (AV × AV × Nat)} {l m : List MapEntry}, ERs φ es l → ERs φ fs m → ERs φ (es ++ fs) (l ++ m)
  | [], _, l, _, h, k => by have h : l = [] := h; subst h; exact k
  | (a, v, b) :: es, _, l, _, h, k => by obtain ⟨e, r, rfl, h1, h2, h3, h4⟩ := h; exact ⟨e, _, rfl, h1, h2, h3, h4.append k⟩
theorem ERs.modify {φ : Emb} {f : AV × AV × Nat → AV × AV × Nat} {g : MapEntry → MapEntry} (hf : ∀ k v b (e : MapEntry), VR φ k e.key → VR φ v e.val → e.born = b → VR φ (f (k, v, b)).1 (g e).key ∧ VR φ (f (k, v, b)).2.1 (g e).val ∧ (g e).born = (f (k, v, b)).2.2) :
    ∀ {es : List (AV × AV × Nat)} {l : List MapEntry} (j : Nat), ERs φ es l → ERs φ (es.modify j f) (l.modify j g)
  | [], l, j, h => by have h : l = [] := h; subst h; simp [ERs]
  | (k, v, b) :: es, l, 0, h => by
    obtain ⟨e, r, rfl, h1, h2, h3, h4⟩ := h
    obtain ⟨q1, q2, q3⟩ := hf k v b e h1 h2 h3
    exact ⟨g e, r, rfl, q1, q2, q3, h4⟩
  | (k, v, b) :: es, l, j + 1, h => by
    obtain ⟨e, r, rfl, h1, h2, h3, h4⟩ := h
    exact ⟨e, _, rfl, h1, h2, h3, ERs.modify hf j h4⟩
theorem ERs.erase {φ : Emb} : ∀ {es : List (AV × AV × Nat)} {l : List MapEntry} (j : Nat), ERs φ es l → ERs φ (es.eraseIdx j) (l.eraseIdx j)
  | [], l, j, h => by have h : l = [] := h; subst h; simp [ERs]
  | (k, v, b) :: es, l, 0, h => by obtain ⟨e, r, rfl, h1, h2, h3, h4⟩ := h; exact h4
  | (k, v, b) :: es, l, j + 1, h => by obtain ⟨e, r, rfl, h1, h2, h3, h4⟩ := h; exact ⟨e, _, rfl, h1, h2, h3, ERs.erase j h4⟩
theorem ERs.get {φ : Emb} : ∀ {es : List (AV × AV × Nat)} {l : List MapEntry}, ERs φ es l → ∀ {j : Nat} {k v : AV} {b : Nat}, es[j]? = some (k, v, b) → ∃ e, l[j]? = some e ∧ VR φ k e.key ∧ VR φ v e.val ∧ e.born = b
  | [], l, h, j, k, v, b, hj => by simp at hj
  | (k', v', b') :: es, l, h, 0, k, v, b, hj => by
    obtain ⟨e, r, rfl, h1, h2, h3, h4⟩ := h
    simp at hj
    obtain ⟨rfl, rfl, rfl⟩ := hj
    exact ⟨e, rfl, h1, h2, h3⟩
  | (k', v', b') :: es, l, h, j + 1, k, v, b, hj => by
    obtain ⟨e, r, rfl, h1, h2, h3, h4⟩ := h
    simp at hj ⊢
    exact h4.get hj

/-- Two keys held against one another. -/
theorem run_keyEq {φ : Emb} {kt : TypeId} {ks : List CK} (hf : flatK P 100 kt = some ks) {k q : AV} (hk : keyOk ks (isStructT P kt) k = true) (hag : aggV q = aggV k) {r : Bool} (he : cellsEq ks k.cells q.cells = some r) {v u : Value} (hv : VR φ k v) (hu : VR φ q u) (w : World) :
    (Op.equal kt v u).run P w = .ok r w ∧ (r = true ↔ v = u) ∧ keyOk ks (isStructT P kt) q = true := by
  obtain ⟨ha, hkk, hok⟩ := keyOk_shape hk
  have hkq : kindsOk ks q.cells = true := by
    have : ∀ (ks : List CK) (as bs : List AV) (r : Bool), cellsEq ks as bs = some r → kindsOk ks bs = true := by
      intro ks
      induction ks with
      | nil => intro as bs r h; cases as <;> cases bs <;> simp [cellsEq] at h; rfl
      | cons c ks ih =>
        intro as bs r h
        cases as with
        | nil => simp [cellsEq] at h
        | cons a as =>
          cases bs with
          | nil => simp [cellsEq] at h
          | cons b bs =>
            unfold cellsEq at h
            split at h
            · rename_i x hx
              split at h
              · rename_i y hy
                have := ih as bs y hy
                unfold cellEq at hx
                split at hx <;> first | (cases hx; done) | simpa [kindsOk] using this
              · cases h
            · cases h
    exact this _ _ _ _ he
  have hkq' : keyOk ks (isStructT P kt) q = true := by simp only [keyOk, Bool.and_eq_true, beq_iff_eq]; exact ⟨by rw [hag, ha], hkq⟩
  obtain ⟨_, _, hqo⟩ := keyOk_shape hkq'
  have e1 := key_mkV hk hv
  have e2 := key_mkV hkq' hu
  have hc := hv.cells hok
  have hd := hu.cells hqo
  have hrun := run_eq_flat (P := P) 9900 100 kt ks hf φ _ _ _ _ r w hc hd he
  rw [← e1, ← e2] at hrun
  refine ⟨hrun, ⟨fun hr => ?_, fun hvu => ?_⟩, hkq'⟩
  · subst hr
    rw [e1, e2, cellsEq_same he hc hd]
  · subst hvu
    exact cellsEq_of_same he hc hd

theorem run_findKeyA {φ : Emb} {kt : TypeId} {ks : List CK} (hf : flatK P 100 kt = some ks) {k : AV} (hk : keyOk ks (isStructT P kt) k = true) {v : Value} (hv : VR φ k v) (w : World) :
    ∀ {es : List (AV × AV × Nat)} {l : List MapEntry} (i : Nat) {r : Option (Nat × AV)}, ERs φ es l → findKey ks k es i = some r →
      ∃ r', (Instr.findAsking kt v l i).run P w = .ok r' w ∧ (∀ d, P.underlying kt = some d → ∀ s, Instr.findNow d v l i = some s → s = r') ∧
        (match r with
         | none => r' = none
         | some (j, x) => ∃ x' e, r' = some (j, x') ∧ VR φ x x' ∧ i ≤ j ∧ l[j - i]? = some e ∧ e.key = v ∧ e.val = x')
  | [], l, i, r, h, hfk => by
    have h : l = [] := h
    subst h
    simp only [findKey] at hfk
    cases hfk
    exact ⟨none, by simp [Instr.findAsking], fun d _ s hs => by simp [Instr.findNow] at hs; exact hs.symm, rfl⟩
  | (q, x, b) :: es, l, i, r, h, hfk => by
    obtain ⟨e, l, rfl, h1, h2, h3, h4⟩ := h
    unfold findKey at hfk
    split at hfk
    · rename_i hag
      split at hfk
      · rename_i hce
        cases hfk
        obtain ⟨g1, g2, _⟩ := run_keyEq hf hk hag hce hv h1 w
        have hvq := g2.1 rfl
        refine ⟨some (i, e.val), by simp [Instr.findAsking, g1], ?_, ⟨e.val, e, rfl, h2, Nat.le_refl _, by simp, hvq.symm, rfl⟩⟩
        intro d hd s hs
        unfold Instr.findNow at hs
        split at hs
        · simpa using hs.symm
        · rename_i hsn
          exfalso
          rw [hvq] at hsn
          unfold Instr.sameNow at hsn
          split at hsn <;> simp_all [bytes_beq_self]
        · cases hs
      · rename_i hce
        obtain ⟨g1, g2, hkq⟩ := run_keyEq hf hk hag hce hv h1 w
        obtain ⟨r', i1, i2, i3⟩ := run_findKeyA hf hk hv w (i + 1) h4 hfk
        refine ⟨r', by simp [Instr.findAsking, g1, i1], ?_, ?_⟩
        · intro d hd s hs
          unfold Instr.findNow at hs
          split at hs
          · rename_i hsn
            exfalso
            have hvq : v = e.key := by
              unfold Instr.sameNow at hsn
              split at hsn
              · split at hsn
                · rename_i hab
                  simp only [Option.some.injEq, beq_iff_eq] at hsn
                  simp_all
                · cases hsn
              · simp only [Option.some.injEq] at hsn
                rw [MapKept.bytes_beq] at hsn
                simp_all
              · simp only [Option.some.injEq, beq_iff_eq] at hsn
                simp_all
              · cases hsn
            exact absurd (g2.2 hvq) (by decide)
          · exact i2 d hd s hs
          · cases hs
        · cases r with
          | none => exact i3
          | some p =>
            obtain ⟨j, x1⟩ := p
            obtain ⟨x', e', j1, j2, j3, j4, j5, j6⟩ := i3
            refine ⟨x', e', j1, j2, by omega, ?_, j5, j6⟩
            rw [show j - i = (j - (i + 1)) + 1 by omega]
            simpa using j4
      · cases hfk
    · cases hfk
end
end Go.AI
