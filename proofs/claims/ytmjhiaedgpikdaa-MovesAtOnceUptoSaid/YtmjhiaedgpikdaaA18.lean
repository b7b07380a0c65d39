/- THE SECOND MACHINE, 18: regions that draw their order: the theorem. Own work. -/
import Derived.Test.YtmjhiaedgpikdaaA17
set_option linter.unusedSimpArgs false
set_option linter.unusedVariables false
namespace Go.AI
section
variable {P : Program}

theorem predsOf_mem {o : Oper} {e : Edge} (he : e ∈ o.after) (hb : Region.binds .any e = true) : e.on ∈ predsOf o := by
  simp only [predsOf, List.mem_filterMap, Array.mem_toList_iff]
  exact ⟨e, he, by rw [if_pos hb]⟩
theorem predsOf_get (ops : Array Oper) {i : Nat} {o : Oper} (h : ops[i]? = some o) : (ops.toList.map predsOf).getD i [] = predsOf o := by
  simp [List.getD_eq_getElem?_getD, h]

theorem opF_of_opC {call : CallT} {o : AOp} (h : isEff o = false) {T : Trie AV} {H : AHeap} : opC call o T H = opF o T H := by
  cases o <;> first | rfl | (simp [isEff] at h)

theorem regionD_ok {call : CallT} (hc : CallOk P call) (hm : P.follows .mixedOrders = true) {w0 : World} {N : Nat} {ops : Array Oper} {Q : Exit → Act → World → Prop} {id : Nat}
    {sg : List Nat} {D : List DOper} (ok : DrawOk ops sg (D.map (·.o)))
    (hre : ∀ (r : Nat) (d : DOper), D[r]? = some d → d.re = reOf (D.map (·.o)) (masks (ops.toList.map predsOf) ops.size) sg r)
    (htr : ∀ (p : Nat) (ao : AOper) (i : Nat), (D.map (·.o))[p]? = some ao → sg[p]? = some i → ∃ o, ops[i]? = some o ∧ TrOper P ops N o ao)
    {φ : Emb} {s s' : St} {a : Act} {w : World} (hS : SR φ w0 N s a w) (he : runOpsD call D s = some s')
    (hQ : ∀ φ' a' w', Step φ s.H φ' s'.H → SR φ' w0 N s' a' w' → Q .normal a' w') : (Code.region id ops true).wp P Q a w := by
  have hnx : ∀ f args H v H', call f args H = some (v, H') → H.next ≤ H'.next := fun f args H v H' h => (hc f args H v H' h).2.1
  generalize hl : D.map (·.o) = l at ok hre htr
  have hlen : l.length = ops.size := ok.len2
  have hDl : D.length = ops.size := by rw [← hlen, ← hl, List.length_map]
  obtain ⟨st, hst0, hstn, hst⟩ := runOpsD_states D s s' he
  have hget : ∀ (p : Nat) (x : AOper), l[p]? = some x → ∃ d : DOper, D[p]? = some d ∧ d.o = x := by
    intro p x hx
    rw [← hl, List.getElem?_map, Option.map_eq_some_iff] at hx
    exact hx
  have F : Frames call l st := ⟨fun p x hx => by
    obtain ⟨d, hd, rfl⟩ := hget p x hx
    exact (hst p d hd).1⟩
  generalize hM : masks (ops.toList.map predsOf) ops.size = M at hre
  have hpairs := ok.pairs
  rw [hM] at hpairs
  -- places
  have hsg : ∀ p i : Nat, sg[p]? = some i → p < ops.size := fun p i h => by
    have := (List.getElem?_eq_some_iff.1 h).1
    rw [ok.len] at this
    exact this
  have hat : ∀ p, p < ops.size → ∃ (x : AOper) (i : Nat), l[p]? = some x ∧ sg[p]? = some i := fun p hp =>
    ⟨_, _, List.getElem?_eq_getElem (by rw [hlen]; exact hp), List.getElem?_eq_getElem (by rw [ok.len]; exact hp)⟩
  have huniq : ∀ p r i : Nat, sg[p]? = some i → sg[r]? = some i → p = r := fun p r i h1 h2 =>
    (List.getElem?_inj (by have := hsg p i h1; rw [ok.len]; exact this) ok.nodup).1 (h1.trans h2.symm)
  have hsgi : ∀ p i : Nat, sg[p]? = some i → i < ops.size := by
    intro p i h
    obtain ⟨x, j, hx, hj⟩ := hat p (hsg p i h)
    rw [h] at hj
    cases hj
    obtain ⟨o, ho, _⟩ := htr p x i hx h
    exact (Array.getElem?_eq_some_iff.1 ho).1
  -- what is told of a pair
  have pair : ∀ (p r : Nat) (x y : AOper) (i j : Nat), p < r → l[p]? = some x → l[r]? = some y → sg[p]? = some i → sg[r]? = some j →
      (M.getD j 0).testBit i = true ∨ (apartA x y = true ∧ (isEff x.op && isEff y.op) = false ∧ (isEff x.op && isRd y.op) = false ∧ (isEff x.op && isAl y.op) = false ∧ ((isEff y.op && isRd x.op) = false ∨ calm l x p r = true)) := by
    intro p r x y i j hpr hx hy hi hj
    have h := hpairs p r hpr (hsg r j hj)
    simp only [pairOk, hx, hy, hi, hj, Bool.or_eq_true, Bool.and_eq_true, Bool.not_eq_true'] at h
    rcases h with h | ⟨⟨⟨⟨h1, h2⟩, h3⟩, h5⟩, h4⟩
    · exact .inl h
    · exact .inr ⟨h1, h2, h3, h5, h4⟩
  -- all of them: the end
  have fin : ∀ (listed : Array Bool) (a : Act) (w : World), (∀ i, i < ops.size → listed.getD i true = true) →
      (∃ (φ' : Emb) (T : Trie AV) (q : Nat), DI φ w0 N s l sg st ops.size listed a w φ' T q) → Q .normal a w := by
    rintro listed a w hall ⟨φ', T, q0, d0⟩
    have d := d0.adv hnx F (q1 := ops.size) d0.le (Nat.le_refl _) hlen (by
      intro p x hp hp2 hx
      obtain ⟨x', i, hx', hi⟩ := hat p hp2
      cases hb : isEff x.op with
      | false => rfl
      | true =>
        have := (d0.eff p x i hx hi hb).1 (hall i (hsgi p i hi))
        omega)
    refine hQ φ' a w (by rw [← hstn, hDl]; exact d.step) ?_
    rw [← hstn, hDl]
    refine ⟨?_, d.sr.h, d.sr.size, d.sr.defers⟩
    intro t
    have e : St.get (st ops.size).T t = St.get T t := by
      rcases last_writer l t ops.size with h | ⟨p, x, hp, hx, hd, hlast⟩
      · rw [d.t2 t fun p x i hx hi _ => h p x (hsg p i hi) hx, ← hst0]
        exact F.tmp t 0 ops.size (Nat.zero_le _) (by omega) fun q x _ hq hx => h q x hq hx
      · obtain ⟨x', i, hx', hi⟩ := hat p hp
        rw [d.t1 p x i t hx hi (hall i (hsgi p i hi)) hd fun p' x' i' hp' hx' hi' _ => hlast p' x' hp' (hsg p' i' hi') hx']
        exact F.tmp t (p + 1) ops.size hp (by omega) fun q x hq hq2 hx => hlast q x (by omega) hq2 hx
    rw [e]
    exact d.sr.t t
  -- the walk over all orders
  have key : ∀ (fuel : Nat) (listed : Array Bool) (a : Act) (w : World), listed.size = ops.size → ((List.range ops.size).filter fun i => !listed.getD i true).length ≤ fuel →
      (∀ (i : Nat) (o : Oper), ops[i]? = some o → listed.getD i true = true → ∀ p ∈ predsOf o, listed.getD p true = true) →
      (∃ (φ' : Emb) (T : Trie AV) (q : Nat), DI φ w0 N s l sg st ops.size listed a w φ' T q) →
      wpAny P .any ops Q fuel listed a w := by
    intro fuel
    induction fuel with
    | zero =>
      intro listed a w hsz hun hcl hinv
      have hall : ∀ i, i < ops.size → listed.getD i true = true := by
        intro i hi
        cases hb : listed.getD i true with
        | true => rfl
        | false =>
          have hmem : i ∈ (List.range ops.size).filter fun i => !listed.getD i true := by
            rw [List.mem_filter]
            exact ⟨List.mem_range.2 hi, by rw [hb]; rfl⟩
          have := List.length_pos_of_mem hmem
          omega
      refine ⟨?_, fin listed a w hall hinv⟩
      rw [List.eq_nil_iff_forall_not_mem]
      intro i hi
      obtain ⟨h0, o, ho, _⟩ := mem_ready.1 hi
      rw [hall i (Array.getElem?_eq_some_iff.1 ho).1] at h0
      cases h0
    | succ fuel ih =>
      intro listed a w hsz hun hcl hinv
      refine ⟨fun hnil => ?_, fun i hi => ?_⟩
      · refine fin listed a w ?_ hinv
        intro i
        induction i using Nat.strongRecOn with
        | _ i ihi =>
          intro hi
          cases hb : listed.getD i true with
          | true => rfl
          | false =>
            exfalso
            obtain ⟨o, ho⟩ : ∃ o, ops[i]? = some o := ⟨_, Array.getElem?_eq_getElem hi⟩
            have : i ∈ Region.ready .any ops listed := by
              refine mem_ready.2 ⟨hb, o, ho, fun e he hbd => ?_⟩
              have hlt := ok.small i o ho e.on (predsOf_mem he hbd)
              have := ihi e.on hlt (by omega)
              have hs : e.on < listed.size := by omega
              simpa [Array.getD, hs] using this
            rw [hnil] at this
            cases this
      · obtain ⟨hun0, o, ho, hafter⟩ := mem_ready.1 hi
        have hin := (Array.getElem?_eq_some_iff.1 ho).1
        have hpl : ∀ p ∈ predsOf o, listed.getD p true = true := by
          intro p hp
          simp only [predsOf, List.mem_filterMap, Array.mem_toList_iff] at hp
          obtain ⟨e, he, heq⟩ := hp
          split at heq
          · rename_i hbd
            cases heq
            have h3 := hafter e he hbd
            rcases Nat.lt_or_ge e.on listed.size with h' | h'
            · simpa [Array.getD, h'] using h3
            · simp [Array.getD, Nat.not_lt.2 h']
          · cases heq
        -- what an operation waits for has come up
        have anc : ∀ j, (M.getD i 0).testBit j = true → listed.getD j true = true := by
          intro j hj
          rw [← hM] at hj
          refine masks_closed _ ops.size (fun k => listed.getD k true = true) ?_ i hin j hj ?_
          · intro k hk p hp
            rcases Nat.lt_or_ge k ops.size with h' | h'
            · obtain ⟨o', ho'⟩ : ∃ o', ops[k]? = some o' := ⟨_, Array.getElem?_eq_getElem h'⟩
              rw [predsOf_get ops ho'] at hp
              exact hcl k o' ho' hk p hp
            · simp [List.getD_eq_getElem?_getD, Array.getElem?_eq_none h'] at hp
          · intro p hp
            rw [predsOf_get ops ho] at hp
            exact hpl p hp
        have anc2 : ∀ j, listed.getD j true = true → j < ops.size → (M.getD j 0).testBit i = true → False := by
          intro j hj hjn hbit
          rw [← hM] at hbit
          have := masks_closed _ ops.size (fun k => listed.getD k true = true) ?_ j hjn i hbit ?_
          · rw [hun0] at this
            cases this
          · intro k hk p hp
            rcases Nat.lt_or_ge k ops.size with h' | h'
            · obtain ⟨o', ho'⟩ : ∃ o', ops[k]? = some o' := ⟨_, Array.getElem?_eq_getElem h'⟩
              rw [predsOf_get ops ho'] at hp
              exact hcl k o' ho' hk p hp
            · simp [List.getD_eq_getElem?_getD, Array.getElem?_eq_none h'] at hp
          · intro p hp
            obtain ⟨o', ho'⟩ : ∃ o', ops[j]? = some o' := ⟨_, Array.getElem?_eq_getElem hjn⟩
            rw [predsOf_get ops ho'] at hp
            exact hcl j o' ho' hj p hp
        -- its place
        obtain ⟨p, hp⟩ := List.mem_iff_getElem?.1 (ok.all i hin)
        have hpn := hsg p i hp
        obtain ⟨x, i', hx, hi'⟩ := hat p hpn
        rw [hp] at hi'
        cases hi'
        obtain ⟨o', ho', ht⟩ := htr p x i hx hp
        rw [ho] at ho'
        cases ho'
        obtain ⟨φ', T, q, d⟩ := hinv
        have h1 := d.t1
        have h2 := d.t2
        -- its temporaries
        have hlook : ∀ t ∈ x.ts, St.get T t = St.get (st p).T t := by
          intro t htx
          have later : ∀ (p' : Nat) (x' : AOper) (i' : Nat), p < p' → l[p']? = some x' → sg[p']? = some i' → listed.getD i' true = true → x'.dst ≠ some t := by
            intro p' x' i' hpp hx' hi' hb hd
            rcases pair p p' x x' i i' hpp hx hx' hp hi' with hbit | ⟨hap, _⟩
            · exact anc2 i' hb (hsgi p' i' hi') hbit
            · exact (apartA_spec hap).2.2 t hd htx
          rcases last_writer l t p with h | ⟨p1, x1, hp1, hx1, hd1, hlast⟩
          · rw [h2 t, ← hst0]
            · exact (F.tmp t 0 p (Nat.zero_le _) (by omega) fun q x _ hq hx => h q x hq hx).symm
            · intro p' x' i' hx' hi' hb hd
              rcases Nat.lt_trichotomy p' p with h' | h' | h'
              · exact h p' x' h' hx' hd
              · subst h'
                rw [hp] at hi'
                cases hi'
                rw [hun0] at hb
                cases hb
              · exact later p' x' i' h' hx' hi' hb hd
          · obtain ⟨x1', i1, hx1', hi1⟩ := hat p1 (by omega)
            have hl1 : listed.getD i1 true = true := by
              rcases pair p1 p x1 x i1 i hp1 hx1 hx hi1 hp with hbit | ⟨hap, _⟩
              · exact anc i1 hbit
              · exact absurd htx ((apartA_spec hap).1 t hd1)
            rw [h1 p1 x1 i1 t hx1 hi1 hl1 hd1]
            · exact (F.tmp t (p1 + 1) p hp1 (by omega) fun q x hq hq2 hx => hlast q x (by omega) hq2 hx).symm
            · intro p' x' i' hpp hx' hi' hb hd
              rcases Nat.lt_trichotomy p' p with h' | h' | h'
              · exact hlast p' x' hpp h' hx' hd
              · subst h'
                rw [hp] at hi'
                cases hi'
                rw [hun0] at hb
                cases hb
              · exact later p' x' i' h' hx' hi' hb hd
        have hlo : ∀ t ∈ x.op.ts, St.get T t = St.get (st p).T t := fun t h => hlook t (by simp [AOper.ts, h])
        have hlg : ∀ t ∈ (match x.guard with | none => [] | some (t, _) => [t] : List Nat), St.get T t = St.get (st p).T t := fun t h => hlook t (by simp only [AOper.ts, List.mem_append]; exact .inr h)
        obtain ⟨v, H', hnext, hparts⟩ := runOp_parts (F.step p x hx)
        have hset : ∀ i2, i2 ≠ i → (listed.setIfInBounds i true).getD i2 true = listed.getD i2 true := fun i2 hne => getD_set_ne true hne.symm
        have hseti : (listed.setIfInBounds i true).getD i true = true := by simp [Array.getD, hsz, hin]
        -- and on
        have go : ∀ (φ2 : Emb) (q2 : Nat) (a2 : Act) (w2 : World), Step φ s.H φ2 (st q2).H → q2 ≤ ops.size → SR φ2 w0 N ⟨(St.put ⟨T, s.H⟩ x.dst v).T, (st q2).H⟩ a2 w2 →
            (∀ (p2 : Nat) (x2 : AOper) (i2 : Nat), l[p2]? = some x2 → sg[p2]? = some i2 → isEff x2.op = true → ((listed.setIfInBounds i true).getD i2 true = true ↔ p2 < q2)) →
            (∀ (p2 : Nat) (x2 : AOper) (i2 : Nat), l[p2]? = some x2 → sg[p2]? = some i2 → isAl x2.op = true → (listed.setIfInBounds i true).getD i2 true = true → p2 < q2) →
            (∀ (p2 : Nat) (x2 : AOper) (i2 : Nat), l[p2]? = some x2 → sg[p2]? = some i2 → isAl x2.op = true → (listed.setIfInBounds i true).getD i2 true = false → p2 < q2 → wanted (st p2).T x2.guard = some true →
              ∃ r, alF x2.op (st p2).T = some r ∧ φ2 (.n (st p2).H.next) = none ∧ (st p2).H.next < (st q2).H.next ∧ (st q2).H.get (.n (st p2).H.next) = some r.2) →
            wpAny P .any ops Q fuel (listed.setIfInBounds i true) a2 w2 := by
          intro φ2 q2 a2 w2 g1 g2 g3 g4 g5 g6
          refine ih _ _ _ (by simpa using hsz) ?_ ?_ ⟨φ2, _, q2, g1, g2, g3, g4, g5, g6, ?_, ?_⟩
          · have hlt := unl_lt ops.size i hin (fun j => !listed.getD j true) (fun j => !(listed.setIfInBounds i true).getD j true) (by simp only [hun0]; rfl) (by simp only [hseti]; rfl) (by
              intro j hj
              by_cases e : j = i
              · subst e
                simp only [hseti] at hj
                cases hj
              · simp only [hset j e] at hj
                exact hj)
            omega
          · intro k ok hk hkb pp hpp
            have hmono : ∀ k, listed.getD k true = true → (listed.setIfInBounds i true).getD k true = true := by
              intro k hk
              by_cases e : k = i
              · subst e; exact hseti
              · rw [hset k e]; exact hk
            by_cases e : k = i
            · subst e
              rw [ho] at hk
              cases hk
              exact hmono pp (hpl pp hpp)
            · rw [hset k e] at hkb
              exact hmono pp (hcl k ok hk hkb pp hpp)
          · intro p2 x2 i2 t hx2 hi2 hb hd hlater
            by_cases e : i2 = i
            · subst e
              obtain rfl := huniq p p2 _ hp hi2
              rw [hx] at hx2
              cases hx2
              rw [hd, put_T_same, hnext, hd, put_T_same]
            · rw [hset i2 e] at hb
              have hne : p2 ≠ p := fun e2 => e (by subst e2; rw [hp] at hi2; cases hi2; rfl)
              have hxt : x.dst ≠ some t := by
                intro hxd
                rcases Nat.lt_or_ge p2 p with h' | h'
                · exact hlater p x i h' hx hp hseti hxd
                · rcases pair p p2 x x2 i i2 (by omega) hx hx2 hp hi2 with hbit | ⟨hap, _⟩
                  · exact anc2 i2 hb (hsgi p2 i2 hi2) hbit
                  · exact (apartA_spec hap).2.1 t hxd hd
              rw [put_T_other hxt]
              refine h1 p2 x2 i2 t hx2 hi2 hb hd fun p' x' i' hpp hx' hi' hb' => hlater p' x' i' hpp hx' hi' ?_
              by_cases e' : i' = i
              · subst e'; exact hseti
              · rw [hset i' e']; exact hb'
          · intro t hno
            have hxt : x.dst ≠ some t := hno p x i hx hp hseti
            rw [put_T_other hxt]
            refine h2 t fun p' x' i' hx' hi' hb' => hno p' x' i' hx' hi' ?_
            by_cases e' : i' = i
            · subst e'; exact hseti
            · rw [hset i' e']; exact hb'
        have putT : ∀ (G G' : AHeap), St.put ⟨T, G⟩ x.dst v = ⟨(St.put ⟨T, G'⟩ x.dst v).T, G⟩ := by intro G G'; cases x.dst <;> rfl
        have other : ∀ (p2 i2 : Nat), sg[p2]? = some i2 → i2 ≠ i → p2 ≠ p := fun p2 i2 hi2 e e2 => e (by subst e2; rw [hp] at hi2; cases hi2; rfl)
        -- an operation that runs on both sides at once
        have normal : ∀ (q1 q2 : Nat), DI φ w0 N s l sg st ops.size listed a w φ' T q1 → q1 ≤ q2 → q2 ≤ ops.size → runOp call x ⟨T, (st q1).H⟩ = some (St.put ⟨T, (st q2).H⟩ x.dst v) →
            (∀ p2, q1 ≤ p2 → p2 < q2 → p2 = p) → (isEff x.op = true → p < q2) → (isAl x.op = true → p < q2) →
            wpOp P ops Q i (wpAny P .any ops Q fuel (listed.setIfInBounds i true)) a w := by
          intro q1 q2 d1 h12 h2n hrun hone heq haq
          refine runOp_ok hc ht d1.sr hrun ho Q _ ?_
          intro φ2 v2 v2' w2 hst2 _ _ _ hSR2
          rw [St.put_H] at hst2
          rw [putT _ s.H] at hSR2
          refine go φ2 q2 _ w2 (d1.step.trans hst2) h2n hSR2 ?_ ?_ ?_
          · intro p2 x2 i2 hx2 hi2 he2
            by_cases e : i2 = i
            · subst e
              obtain rfl := huniq p p2 _ hp hi2
              rw [hx] at hx2
              cases hx2
              rw [hseti]
              simp [heq he2]
            · rw [hset i2 e, d1.eff p2 x2 i2 hx2 hi2 he2]
              constructor
              · intro h; omega
              · intro h
                rcases Nat.lt_or_ge p2 q1 with h' | h'
                · exact h'
                · exact absurd (hone p2 h' h) (other p2 i2 hi2 e)
          · intro p2 x2 i2 hx2 hi2 ha2 hb
            by_cases e : i2 = i
            · subst e
              obtain rfl := huniq p p2 _ hp hi2
              rw [hx] at hx2
              cases hx2
              exact haq ha2
            · rw [hset i2 e] at hb
              have := d1.al p2 x2 i2 hx2 hi2 ha2 hb
              omega
          · intro p2 x2 i2 hx2 hi2 ha2 hb hp2 hw2
            have e : i2 ≠ i := by
              intro e
              rw [e, hseti] at hb
              cases hb
            rw [hset i2 e] at hb
            have hq1 : p2 < q1 := by
              rcases Nat.lt_or_ge p2 q1 with h' | h'
              · exact h'
              · exact absurd (hone p2 h' hp2) (other p2 i2 hi2 e)
            obtain ⟨r, e1, e2, e3, e4⟩ := d1.pend p2 x2 i2 hx2 hi2 ha2 hb hq1 hw2
            obtain ⟨k1, k2⟩ := hst2.keep _ e3 e2
            exact ⟨r, e1, k1, Nat.lt_of_lt_of_le e3 hst2.next, k2.trans e4⟩
        -- up to its own place
        have upto : q ≤ p → (isEff x.op = true ∨ isAl x.op = true ∨ isRd x.op = true) → DI φ w0 N s l sg st ops.size listed a w φ' T p := by
          intro hqp hk
          refine d.adv hnx F hqp (by omega) hlen ?_
          intro r y hr hr2 hy
          cases hb : isEff y.op with
          | false => rfl
          | true =>
            obtain ⟨y', j, hy', hj⟩ := hat r (by omega)
            rcases pair r p y x j i hr2 hy hx hj hp with hbit | ⟨_, h3, h4, h5, _⟩
            · have := (d.eff r y j hy hj hb).1 (anc j hbit)
              omega
            · rw [hb] at h3 h4 h5
              rw [Bool.true_and] at h3 h4 h5
              rcases hk with h | h | h
              · rw [h] at h3; cases h3
              · rw [h] at h5; cases h5
              · rw [h] at h4; cases h4
        have e1 : (st (p + 1)).H = H' := by rw [hnext, St.put_H]
        have here : ∀ (q1 : Nat), (st q1).H = (st p).H → runOp call x ⟨T, (st q1).H⟩ = some (St.put ⟨T, (st (p + 1)).H⟩ x.dst v) := by
          intro q1 hH
          rw [e1]
          refine runOp_of_parts ?_
          rw [wanted_congr hlg, opC_congr call hlo, hH]
          exact hparts
        cases heff : isEff x.op with
        | true =>
          have hqp : q ≤ p := by
            rcases Nat.lt_or_ge p q with h' | h'
            · have := (d.eff p x i hx hp heff).2 h'
              rw [hun0] at this
              cases this
            · exact h'
          exact normal p (p + 1) (upto hqp (.inl heff)) (Nat.le_succ _) hpn (here p rfl) (fun p2 h3 h4 => by omega) (fun _ => by omega) (fun _ => by omega)
        | false =>
          cases hal : isAl x.op with
          | true =>
            by_cases hqp : q ≤ p
            · exact normal p (p + 1) (upto hqp (.inr (.inl hal))) (Nat.le_succ _) hpn (here p rfl) (fun p2 h3 h4 => by omega) (fun _ => by omega) (fun _ => by omega)
            · rcases hparts with ⟨hw, hop⟩ | ⟨hw, hv, hHs⟩
              · obtain ⟨r, c1, c2, c3, c4⟩ := d.pend p x i hx hp hal hun0 (by omega) hw
                obtain ⟨r', c5, _, c6⟩ := F.al hx hal hw
                rw [c1] at c5
                cases c5
                have hv : (St.put ⟨T, s.H⟩ x.dst v).T = (St.put ⟨T, s.H⟩ x.dst (r.1.at (.n (st p).H.next))).T := by
                  cases hxd : x.dst with
                  | none => rfl
                  | some dd =>
                    have h3 : St.get (st (p + 1)).T dd = v := by rw [hnext, hxd, put_T_same]
                    have h4 : St.get (st (p + 1)).T dd = r.1.at (.n (st p).H.next) := by rw [c6, hxd, put_T_same]
                    rw [← h3, h4]
                have hr2 : alF x.op T = some r := by
                  have k1 := opF_congr hlo (st p).H
                  rw [opF_al hal, opF_al hal, c1] at k1
                  have k2 := opF_al hal T (st p).H
                  cases hq : alF x.op T with
                  | none => rw [hq] at k1; cases k1
                  | some r2 =>
                    have : alF x.op T = alF x.op (st p).T := alF_congr hlo
                    rw [← hq, this, c1]
                refine runOp_late ht hal d.sr hr2 (by rw [wanted_congr hlg]; exact hw) c3 c2 c4 ho Q _ ?_
                intro v2 w2 hle2 hSR2
                have hput : St.put ⟨T, (st q).H⟩ x.dst (r.1.at (.n (st p).H.next)) = ⟨(St.put ⟨T, s.H⟩ x.dst v).T, (st q).H⟩ := by
                  rw [hv]
                  cases x.dst <;> rfl
                rw [hput] at hSR2
                have hlow : s.H.next ≤ (st p).H.next := by
                  have := F.next hnx 0 p (Nat.zero_le _) (by omega)
                  rwa [hst0] at this
                refine go _ q _ w2 ⟨Emb.le_trans d.step.le hle2, d.step.next, ?_⟩ d.le hSR2 ?_ ?_ ?_
                · intro k hk hkn
                  obtain ⟨k1, k2⟩ := d.step.keep k hk hkn
                  exact ⟨by rw [Emb.upd_other _ _ (by intro e; injection e; omega)]; exact k1, k2⟩
                · intro p2 x2 i2 hx2 hi2 he2
                  have e : i2 ≠ i := by
                    intro e
                    subst e
                    obtain rfl := huniq p p2 _ hp hi2
                    rw [hx] at hx2
                    cases hx2
                    rw [heff] at he2
                    cases he2
                  rw [hset i2 e]
                  exact d.eff p2 x2 i2 hx2 hi2 he2
                · intro p2 x2 i2 hx2 hi2 ha2 hb
                  by_cases e : i2 = i
                  · subst e
                    obtain rfl := huniq p p2 _ hp hi2
                    omega
                  · rw [hset i2 e] at hb
                    exact d.al p2 x2 i2 hx2 hi2 ha2 hb
                · intro p2 x2 i2 hx2 hi2 ha2 hb hp2 hw2
                  have e : i2 ≠ i := by
                    intro e
                    rw [e, hseti] at hb
                    cases hb
                  rw [hset i2 e] at hb
                  obtain ⟨r2, f1, f2, f3, f4⟩ := d.pend p2 x2 i2 hx2 hi2 ha2 hb hp2 hw2
                  refine ⟨r2, f1, ?_, f3, f4⟩
                  have hne := other p2 i2 hi2 e
                  have hkk : (st p2).H.next ≠ (st p).H.next := by
                    have hp2n := hsg p2 i2 hi2
                    rcases Nat.lt_or_ge p2 p with h' | h'
                    · obtain ⟨_, _, g2, _⟩ := F.al hx2 ha2 hw2
                      have := F.next hnx (p2 + 1) p (by omega) (by omega)
                      rw [g2] at this
                      have : (st p2).H.next + 1 ≤ (st p).H.next := this
                      omega
                    · obtain ⟨_, _, g2, _⟩ := F.al hx hal hw
                      have := F.next hnx (p + 1) p2 (by omega) (by omega)
                      rw [g2] at this
                      have : (st p).H.next + 1 ≤ (st p2).H.next := this
                      omega
                  rw [Emb.upd_other _ _ (by intro e; injection e with e; exact hkk e)]
                  exact f2
              · refine normal q q d (Nat.le_refl _) d.le (runOp_of_parts (.inr ⟨by rw [wanted_congr hlg]; exact hw, hv, rfl⟩)) (fun p2 h3 h4 => by omega) (fun h => by rw [heff] at h; cases h) (fun _ => by omega)
          | false =>
            have still : ∀ (q1 : Nat), (wanted (st p).T x.guard = some true → opF x.op (st p).T (st q1).H = some (v, (st q1).H)) → runOp call x ⟨T, (st q1).H⟩ = some (St.put ⟨T, (st q1).H⟩ x.dst v) := by
              intro q1 h
              rcases hparts with ⟨hw, hop⟩ | ⟨hw, hv, hHs⟩
              · refine runOp_of_parts (.inl ⟨by rw [wanted_congr hlg]; exact hw, ?_⟩)
                rw [opC_congr call hlo, opF_of_opC heff]
                exact h hw
              · exact runOp_of_parts (.inr ⟨by rw [wanted_congr hlg]; exact hw, hv, rfl⟩)
            have hopF : wanted (st p).T x.guard = some true → opF x.op (st p).T (st p).H = some (v, (st p).H) := by
              intro hw'
              rcases hparts with ⟨hw, hop⟩ | ⟨hw, hv, hHs⟩
              · rw [opF_of_opC heff] at hop
                have := opF_keeps heff hal hop
                rw [← this] at hop ⊢
                rw [this] at hop
                rw [this]
                exact hop
              · rw [hw] at hw'; cases hw'
            cases hrd : isRd x.op with
            | false =>
              exact normal q q d (Nat.le_refl _) d.le (still q fun hw => opF_any heff hal hrd (hopF hw) _) (fun p2 h3 h4 => by omega) (fun h => by rw [heff] at h; cases h) (fun h => by rw [hal] at h; cases h)
            | true =>
              by_cases hqp : q ≤ p
              · exact normal p p (upto hqp (.inr (.inr hrd))) (Nat.le_refl _) (by omega) (still p hopF) (fun p2 h3 h4 => by omega) (fun h => by rw [heff] at h; cases h) (fun h => by rw [hal] at h; cases h)
              · refine normal q q d (Nat.le_refl _) d.le (still q fun hw => ?_) (fun p2 h3 h4 => by omega) (fun h => by rw [heff] at h; cases h) (fun h => by rw [hal] at h; cases h)
                have hop := hopF hw
                have hq := d.le
                rcases last_eff l p q with h | ⟨r, y, hr0, hr, hy, hyE, hlast⟩
                · exact opF_rd_grow hrd (F.grow p q (by omega) (by omega) fun r y hr hr2 hy => h r y hr hr2 hy) hop
                · have hrp : p < r := by
                    rcases Nat.lt_or_ge p r with h' | h'
                    · exact h'
                    · obtain rfl : r = p := by omega
                      rw [hx] at hy
                      cases hy
                      rw [heff] at hyE
                      cases hyE
                  have hH : Grow (st (r + 1)).H (st q).H := F.grow (r + 1) q hr (by omega) fun r' y' h3 h4 h5 => hlast r' y' (by omega) h4 h5
                  obtain ⟨y', j, hy', hj⟩ := hat r (by omega)
                  have hjl : listed.getD j true = true := (d.eff r y j hy hj hyE).2 hr
                  have hnbit : (M.getD j 0).testBit i = false := by
                    cases hb : (M.getD j 0).testBit i with
                    | false => rfl
                    | true => exact (anc2 j hjl (hsgi r j hj) hb).elim
                  rcases pair p r x y i j hrp hx hy hp hj with hbit | ⟨_, _, _, _, hcalm⟩
                  · rw [hnbit] at hbit
                    cases hbit
                  · have hcalm : calm l x p r = true := by
                      rcases hcalm with h | h
                      · rw [hyE, hrd] at h
                        cases h
                      · exact h
                    unfold calm at hcalm
                    rw [Bool.and_eq_true] at hcalm
                    obtain ⟨hc1, hc2⟩ := hcalm
                    cases hxd : x.dst with
                    | none => rw [hxd] at hc1; cases hc1
                    | some dx =>
                      rw [hxd] at hc1
                      have hnw : ∀ (r' : Nat) (z : AOper), p < r' → r' < r + 1 → l[r']? = some z → ∀ d, z.dst = some d → d ∉ x.ts ∧ dx ≠ d := by
                        intro r' z h3 h4 hz d hd
                        have h5 := List.all_eq_true.1 hc2 r' (List.mem_range.2 (List.getElem?_eq_some_iff.1 hz).1)
                        rw [hz] at h5
                        simp only [h3, decide_true, show r' ≤ r by omega, Bool.and_self, Bool.not_true, Bool.false_or, hd, Bool.and_eq_true, Bool.not_eq_true', List.contains_eq_mem, decide_eq_false_iff_not] at h5
                        refine ⟨by simpa using h5.1, fun e => ?_⟩
                        have := h5.2
                        rw [hxd, e] at this
                        simp at this
                      obtain ⟨d', hd, hdo⟩ := hget r y hy
                      have hrs := (hst r d' hd).2
                      rw [hre r d' hd] at hrs
                      have hxm : x ∈ reOf l M sg r := by
                        unfold reOf
                        rw [hy, hj]
                        simp only [hyE, if_true, List.mem_filterMap, List.mem_range]
                        exact ⟨p, hrp, by rw [hx, hp]; simp only [hrd, hnbit, Bool.not_false, Bool.and_self, if_true]⟩
                      have hread := List.all_eq_true.1 hrs x hxm
                      have hts : ∀ t ∈ x.ts, St.get (st (r + 1)).T t = St.get (st p).T t := by
                        intro t htx
                        rw [F.tmp t (p + 1) (r + 1) (by omega) (by omega) fun q z h3 h4 hz hd => (hnw q z (by omega) h4 hz t hd).1 htx]
                        rw [hnext, put_T_other]
                        rw [hxd]
                        intro e
                        cases e
                        simp at hc1
                        exact hc1 htx
                      have hdx : St.get (st (r + 1)).T dx = v := by
                        rw [F.tmp dx (p + 1) (r + 1) (by omega) (by omega) fun q z h3 h4 hz hd => (hnw q z (by omega) h4 hz dx hd).2 rfl]
                        rw [hnext, hxd, put_T_same]
                      unfold reads at hread
                      rw [wanted_congr (T' := (st p).T) fun t h => hts t (by simp only [AOper.ts, List.mem_append]; exact .inr h), hw] at hread
                      simp only [hxd] at hread
                      rw [opF_congr (T' := (st p).T) fun t h => hts t (by simp [AOper.ts, h])] at hread
                      cases hf : opF x.op (st p).T (st (r + 1)).H with
                      | none => rw [hf] at hread; cases hread
                      | some pr =>
                        obtain ⟨v2, H2⟩ := pr
                        rw [hf] at hread
                        simp only at hread
                        have := same_eq hread
                        rw [hdx] at this
                        subst this
                        exact opF_rd_grow hrd hH hf
  refine wp_region_any hm (key ops.size _ _ _ (by simp) ?_ ?_ ?_)
  · have := List.length_filter_le (fun i => !(Array.replicate ops.size false).getD i true) (List.range ops.size)
    simpa using this
  · intro i o ho hb
    have hi := (Array.getElem?_eq_some_iff.1 ho).1
    simp [Array.getD, hi] at hb
  · have hnone : ∀ i, i < ops.size → (Array.replicate ops.size false).getD i true = false := fun i hi => by simp [Array.getD, hi]
    refine ⟨φ, s.T, 0, by rw [hst0]; exact Step.refl _ _, Nat.zero_le _, ?_, ?_, ?_, ?_, ?_, ?_⟩
    · rw [hst0]
      exact ⟨hS.t, hS.h.drew, hS.size, hS.defers⟩
    · intro p x i hx hi _
      rw [hnone i (hsgi p i hi)]
      simp
    · intro p x i hx hi _ hb
      rw [hnone i (hsgi p i hi)] at hb
      cases hb
    · intro p x i _ _ _ _ h
      omega
    · intro p x i t hx hi hb
      rw [hnone i (hsgi p i hi)] at hb
      cases hb
    · intro t _
      rfl
end
end Go.AI
