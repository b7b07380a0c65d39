/- THE SECOND MACHINE, 17: regions that draw their order: one order stands for all. Own work. -/
import Derived.Test.YtmjhiaedgpikdaaA16
set_option linter.unusedSimpArgs false
set_option linter.unusedVariables false
namespace Go.AI

/-! ### what waits for what -/
def predsOf (o : Oper) : List Nat := o.after.toList.filterMap fun e => if Region.binds .any e then some e.on else none
def maskOf (M : List Nat) : List Nat → Nat
  | [] => 0
  | p :: r => (maskOf M r ||| 2 ^ p) ||| M.getD p 0
def masks (ps : List (List Nat)) : Nat → List Nat
  | 0 => []
  | k + 1 => let M := masks ps k; M ++ [maskOf M (ps.getD k [])]

theorem maskOf_bit (M : List Nat) : ∀ (ps : List Nat) (j : Nat), (maskOf M ps).testBit j = true → ∃ p ∈ ps, j = p ∨ (M.getD p 0).testBit j = true
  | [], j, h => by simp [maskOf] at h
  | p :: r, j, h => by
    simp only [maskOf, Nat.testBit_or, Bool.or_eq_true] at h
    rcases h with (h | h) | h
    · obtain ⟨q, hq, h'⟩ := maskOf_bit M r j h
      exact ⟨q, List.mem_cons_of_mem _ hq, h'⟩
    · rw [Nat.testBit_two_pow] at h
      exact ⟨p, List.mem_cons_self, .inl (by simpa using (of_decide_eq_true h).symm)⟩
    · exact ⟨p, List.mem_cons_self, .inr h⟩
theorem masks_length (ps : List (List Nat)) : ∀ k, (masks ps k).length = k
  | 0 => rfl
  | k + 1 => by simp [masks, masks_length ps k]
theorem masks_get (ps : List (List Nat)) : ∀ k i, i < k → (masks ps k).getD i 0 = maskOf (masks ps i) (ps.getD i [])
  | 0, i, h => by omega
  | k + 1, i, h => by
    simp only [masks]
    by_cases hi : i < k
    · rw [List.getD_eq_getElem?_getD, List.getElem?_append_left (by rw [masks_length]; exact hi), ← List.getD_eq_getElem?_getD]
      exact masks_get ps k i hi
    · obtain rfl : i = k := by omega
      rw [List.getD_eq_getElem?_getD, List.getElem?_append_right (by rw [masks_length]; exact Nat.le_refl _), masks_length]
      simp
theorem masks_out (ps : List (List Nat)) (k i : Nat) (h : k ≤ i) : (masks ps k).getD i 0 = 0 := by
  rw [List.getD_eq_getElem?_getD, List.getElem?_eq_none (by rw [masks_length]; exact h)]
  rfl
/-- What an operation waits for has been carried out. -/
theorem masks_closed (ps : List (List Nat)) (n : Nat) (S : Nat → Prop) (hS : ∀ i, S i → ∀ p ∈ ps.getD i [], S p) :
    ∀ i, i < n → ∀ j, ((masks ps n).getD i 0).testBit j = true → (∀ p ∈ ps.getD i [], S p) → S j := by
  intro i
  induction i using Nat.strongRecOn with
  | _ i ih =>
    intro hi j hj hp
    rw [masks_get ps n i hi] at hj
    obtain ⟨p, hpm, h⟩ := maskOf_bit _ _ _ hj
    rcases h with rfl | h
    · exact hp _ hpm
    · by_cases hpi : p < i
      · rw [masks_get ps i p hpi] at h
        rw [← masks_get ps n p (by omega)] at h
        exact ih p hpi (by omega) j h (hS p (hp p hpm))
      · rw [masks_out ps i p (by omega)] at h
        simp at h

def apartA (x y : AOper) : Bool :=
  (match x.dst with
   | some d => !y.ts.contains d && !(y.dst == some d)
   | none => true) &&
  (match y.dst with
   | some d => !x.ts.contains d
   | none => true)
/-- Nothing behind p, up to r, touches what p looks at or told. -/
def calm (l : List AOper) (x : AOper) (p r : Nat) : Bool :=
  (match x.dst with | some d => !x.ts.contains d | none => false) && (List.range l.length).all fun q => !(decide (p < q) && decide (q ≤ r)) ||
    (match l[q]? with
     | some y => (match y.dst with | some d => !x.ts.contains d && !(x.dst == some d) | none => true)
     | none => true)

/-- Do two operations go in either order? (p ahead of r in the one that is carried out) -/
def pairOk (l : List AOper) (M : List Nat) (sg : List Nat) (p r : Nat) : Bool :=
  match l[p]?, l[r]?, sg[p]?, sg[r]? with
  | some x, some y, some i, some j =>
    ((M.getD j 0).testBit i) ||
    (apartA x y && !(isEff x.op && isEff y.op) && !(isEff x.op && isRd y.op) && !(isEff x.op && isAl y.op) && (!(isEff y.op && isRd x.op) || calm l x p r))
  | _, _, _, _ => false
/-- The reads that are told once more behind an operation. -/
def reOf (l : List AOper) (M : List Nat) (sg : List Nat) (r : Nat) : List AOper :=
  match l[r]?, sg[r]? with
  | some y, some j => if isEff y.op then ((List.range r).filterMap fun p => match l[p]?, sg[p]? with
      | some x, some i => if isRd x.op && !((M.getD j 0).testBit i) then some x else none
      | _, _ => none) else []
  | _, _ => []

structure DrawOk (ops : Array Oper) (sg : List Nat) (l : List AOper) : Prop where
  len : sg.length = ops.size
  len2 : l.length = ops.size
  all : ∀ i, i < ops.size → i ∈ sg
  nodup : sg.Nodup
  small : ∀ i o, ops[i]? = some o → ∀ p ∈ predsOf o, p < i
  pairs : ∀ p r, p < r → r < ops.size → pairOk l (masks (ops.toList.map predsOf) ops.size) sg p r = true

section
variable {P : Program}

theorem apartA_spec {x y : AOper} (h : apartA x y = true) :
    (∀ d, x.dst = some d → d ∉ y.ts) ∧ (∀ d, x.dst = some d → y.dst ≠ some d) ∧ (∀ d, y.dst = some d → d ∉ x.ts) := by
  unfold apartA at h
  rw [Bool.and_eq_true] at h
  refine ⟨fun d hd => ?_, fun d hd => ?_, fun d hd => ?_⟩
  · have := h.1; rw [hd] at this; simp at this; exact this.1
  · have := h.1; rw [hd] at this; simp at this; exact this.2
  · have := h.2; rw [hd] at this; simpa using this

/-- The frames of the order that is carried out. -/
theorem runOpsD_states {call : CallT} : ∀ (D : List DOper) (s s' : St), runOpsD call D s = some s' → ∃ st : Nat → St, st 0 = s ∧ st D.length = s' ∧
    ∀ p d, D[p]? = some d → runOp call d.o (st p) = some (st (p + 1)) ∧ d.re.all (reads (st (p + 1))) = true
  | [], s, s', h => by
    simp only [runOpsD] at h
    cases h
    exact ⟨fun _ => s, rfl, rfl, fun p d hd => by simp at hd⟩
  | d :: D, s, s', h => by
    simp only [runOpsD] at h
    split at h
    · rename_i s1 hs1
      split at h
      · rename_i hre
        obtain ⟨st, h0, hn, hst⟩ := runOpsD_states D s1 s' h
        refine ⟨fun p => match p with | 0 => s | p + 1 => st p, rfl, hn, ?_⟩
        intro p d' hd
        cases p with
        | zero =>
          simp at hd
          subst hd
          simp only [h0]
          exact ⟨hs1, hre⟩
        | succ p => exact hst p d' (by simpa using hd)
      · cases h
    · cases h

 mutual
theorem same_eq : ∀ {a b : AV}, AV.same a b = true → a = b
  | .bool a, b, h => by cases b <;> simp [AV.same] at h; rw [h]
  | .int k a, b, h => by cases b <;> simp [AV.same] at h; rw [h.1, h.2]
  | .str a, b, h => by
    cases b <;> simp [AV.same] at h
    rename_i c
    obtain ⟨⟨x⟩⟩ := a
    obtain ⟨⟨y⟩⟩ := c
    simp_all
  | .nilptr, b, h => by cases b <;> simp [AV.same] at h; rfl
  | .ptr i o, b, h => by cases b <;> simp [AV.same] at h; rw [h.1, h.2]
  | .nilslc, b, h => by cases b <;> simp [AV.same] at h; rfl
  | .slc i o l c t, b, h => by cases b <;> simp [AV.same] at h; simp_all
  | .nilmap, b, h => by cases b <;> simp [AV.same] at h; rfl
  | .map i, b, h => by cases b <;> simp [AV.same] at h; rw [h]
  | .func f x y, b, h => by
    cases b <;> simp [AV.same] at h
    rw [h.1.1, sames_eq h.1.2, sames_eq h.2]
  | .nilfunc, b, h => by cases b <;> simp [AV.same] at h; rfl
  | .iface t v, b, h => by
    cases b <;> simp [AV.same] at h
    rw [h.1, same_eq h.2]
  | .niliface, b, h => by cases b <;> simp [AV.same] at h; rfl
  | .agg x, b, h => by
    cases b <;> simp [AV.same] at h
    rw [sames_eq h]
  | .tuple x, b, h => by
    cases b <;> simp [AV.same] at h
    rw [sames_eq h]
  | .junk, b, h => by cases b <;> simp [AV.same] at h
theorem sames_eq : ∀ {a b : List AV}, AV.sames a b = true → a = b
  | [], b, h => by cases b <;> simp [AV.sames] at h; rfl
  | x :: l, b, h => by
    cases b <;> simp [AV.sames] at h
    rw [same_eq h.1, sames_eq h.2]
end

/-- What an operation leaves. -/
theorem runOp_parts {call : CallT} {o : AOper} {s s' : St} (h : runOp call o s = some s') :
    ∃ v H', s' = St.put { s with H := H' } o.dst v ∧ ((wanted s.T o.guard = some true ∧ opC call o.op s.T s.H = some (v, H')) ∨ (wanted s.T o.guard = some false ∧ v = .undef ∧ H' = s.H)) := by
  unfold runOp at h
  split at h
  · rename_i hw
    split at h
    · rename_i v H' hop
      cases h
      exact ⟨v, H', rfl, .inl ⟨hw, hop⟩⟩
    · cases h
  · rename_i hw
    cases h
    exact ⟨.undef, s.H, rfl, .inr ⟨hw, rfl, rfl⟩⟩
  · cases h
theorem runOp_of_parts {call : CallT} {o : AOper} {s : St} {v : AV} {H' : AHeap} (h : (wanted s.T o.guard = some true ∧ opC call o.op s.T s.H = some (v, H')) ∨ (wanted s.T o.guard = some false ∧ v = .undef ∧ H' = s.H)) :
    runOp call o s = some (St.put { s with H := H' } o.dst v) := by
  unfold runOp
  rcases h with ⟨h1, h2⟩ | ⟨h1, rfl, rfl⟩
  · simp only [h1, h2]
  · simp only [h1]

theorem put_T_other {s : St} {d : Option Nat} {v : AV} {t : Nat} (h : d ≠ some t) : St.get (s.put d v).T t = St.get s.T t := by
  cases d with
  | none => rfl
  | some d => exact get_put_ne _ _ (fun e => h (by rw [e]))
theorem put_T_same {s : St} {t : Nat} {v : AV} : St.get (s.put (some t) v).T t = v := get_put_same _ _ _

theorem last_writer (l : List AOper) (t : Nat) : ∀ p : Nat, (∀ (q : Nat) (x : AOper), q < p → l[q]? = some x → x.dst ≠ some t) ∨
    ∃ (q : Nat) (x : AOper), q < p ∧ l[q]? = some x ∧ x.dst = some t ∧ ∀ (r : Nat) (y : AOper), q < r → r < p → l[r]? = some y → y.dst ≠ some t
  | 0 => .inl fun q x h => by omega
  | p + 1 => by
    cases hx : l[p]? with
    | none =>
      rcases last_writer l t p with h | ⟨q, x, h1, h2, h3, h4⟩
      · refine .inl fun q x hq hl => ?_
        by_cases e : q = p
        · subst e; rw [hx] at hl; cases hl
        · exact h q x (by omega) hl
      · refine .inr ⟨q, x, by omega, h2, h3, fun r y hr hr2 hl => ?_⟩
        by_cases e : r = p
        · subst e; rw [hx] at hl; cases hl
        · exact h4 r y hr (by omega) hl
    | some z =>
      by_cases hz : z.dst = some t
      · exact .inr ⟨p, z, by omega, hx, hz, fun r y h1 h2 _ => by omega⟩
      · rcases last_writer l t p with h | ⟨q, x, h1, h2, h3, h4⟩
        · refine .inl fun q x hq hl => ?_
          by_cases e : q = p
          · subst e; rw [hx] at hl; cases hl; exact hz
          · exact h q x (by omega) hl
        · refine .inr ⟨q, x, by omega, h2, h3, fun r y hr hr2 hl => ?_⟩
          by_cases e : r = p
          · subst e; rw [hx] at hl; cases hl; exact hz
          · exact h4 r y hr (by omega) hl
theorem last_eff (l : List AOper) (p : Nat) : ∀ q : Nat, (∀ (r : Nat) (x : AOper), p ≤ r → r < q → l[r]? = some x → isEff x.op = false) ∨
    ∃ (r : Nat) (x : AOper), p ≤ r ∧ r < q ∧ l[r]? = some x ∧ isEff x.op = true ∧ ∀ (r' : Nat) (y : AOper), r < r' → r' < q → l[r']? = some y → isEff y.op = false
  | 0 => .inl fun r x _ h => by omega
  | q + 1 => by
    by_cases hpq : p ≤ q
    · cases hx : l[q]? with
      | none =>
        rcases last_eff l p q with h | ⟨r, x, h0, h1, h2, h3, h4⟩
        · refine .inl fun r x hp hr hl => ?_
          by_cases e : r = q
          · subst e; rw [hx] at hl; cases hl
          · exact h r x hp (by omega) hl
        · refine .inr ⟨r, x, h0, by omega, h2, h3, fun r' y hr hr2 hl => ?_⟩
          by_cases e : r' = q
          · subst e; rw [hx] at hl; cases hl
          · exact h4 r' y hr (by omega) hl
      | some z =>
        cases hz : isEff z.op with
        | true => exact .inr ⟨q, z, hpq, by omega, hx, hz, fun r' y h1 h2 _ => by omega⟩
        | false =>
          rcases last_eff l p q with h | ⟨r, x, h0, h1, h2, h3, h4⟩
          · refine .inl fun r x hp hr hl => ?_
            by_cases e : r = q
            · subst e; rw [hx] at hl; cases hl; exact hz
            · exact h r x hp (by omega) hl
          · refine .inr ⟨r, x, h0, by omega, h2, h3, fun r' y hr hr2 hl => ?_⟩
            by_cases e : r' = q
            · subst e; rw [hx] at hl; cases hl; exact hz
            · exact h4 r' y hr (by omega) hl
    · exact .inl fun r x hp hr _ => by omega

/-- The frames, one behind the other. -/
structure Frames (call : CallT) (l : List AOper) (st : Nat → St) : Prop where
  step : ∀ p x, l[p]? = some x → runOp call x (st p) = some (st (p + 1))

theorem Frames.tmp {call : CallT} {l : List AOper} {st : Nat → St} (F : Frames call l st) (t p : Nat) : ∀ r, p ≤ r → r ≤ l.length → (∀ q x, p ≤ q → q < r → l[q]? = some x → x.dst ≠ some t) → St.get (st r).T t = St.get (st p).T t := by
  intro r
  induction r with
  | zero =>
    intro h _ _
    obtain rfl : p = 0 := by omega
    rfl
  | succ r ih =>
    intro h hl hw
    by_cases e : p = r + 1
    · subst e; rfl
    · have hx : l[r]? = some l[r] := List.getElem?_eq_getElem (by omega)
      obtain ⟨v, H', h1, _⟩ := runOp_parts (F.step r _ hx)
      rw [h1, put_T_other (hw r _ (by omega) (by omega) hx)]
      exact ih (by omega) (by omega) fun q x h1 h2 => hw q x h1 (by omega)
/-- What a maker makes. -/
theorem Frames.al {call : CallT} {l : List AOper} {st : Nat → St} (F : Frames call l st) {p : Nat} {x : AOper} (hx : l[p]? = some x) (hal : isAl x.op = true) (hw : wanted (st p).T x.guard = some true) :
    ∃ r, alF x.op (st p).T = some r ∧ (st (p + 1)).H = (st p).H.alloc r.2 ∧ st (p + 1) = St.put { (st p) with H := (st p).H.alloc r.2 } x.dst (r.1.at (.n (st p).H.next)) := by
  obtain ⟨v, H', h1, h2⟩ := runOp_parts (F.step p _ hx)
  rcases h2 with ⟨_, hop⟩ | ⟨h, _, _⟩
  · have hop : opF x.op (st p).T (st p).H = some (v, H') := by
      cases hoo : x.op <;> first
        | (rw [hoo] at hop; exact hop)
        | (rw [hoo] at hal; cases hal)
    rw [opF_al hal, Option.map_eq_some_iff] at hop
    obtain ⟨r, hr, he⟩ := hop
    simp only [Prod.mk.injEq] at he
    obtain ⟨rfl, rfl⟩ := he
    exact ⟨r, hr, by rw [h1, St.put_H], h1⟩
  · rw [hw] at h; cases h
theorem Frames.grow1 {call : CallT} {l : List AOper} {st : Nat → St} (F : Frames call l st) {p : Nat} {x : AOper} (hx : l[p]? = some x) (hne : isEff x.op = false) : Grow (st p).H (st (p + 1)).H := by
  obtain ⟨v, H', h1, h2⟩ := runOp_parts (F.step p _ hx)
  rcases h2 with ⟨hw, hop⟩ | ⟨_, _, h⟩
  · cases hal : isAl x.op with
    | true =>
      obtain ⟨r, _, h, _⟩ := F.al hx hal hw
      rw [h]
      exact Grow.alloc _ _
    | false =>
      have : H' = (st p).H := by
        refine opF_keeps hne hal (T := (st p).T) (v := v) ?_
        cases hoo : x.op <;> first
          | (rw [hoo] at hop; exact hop)
          | (rw [hoo] at hne; simp [isEff] at hne)
      rw [h1, St.put_H]
      simp only [this]
      exact Grow.refl _
  · rw [h1, St.put_H]
    simp only [h]
    exact Grow.refl _
theorem Frames.grow {call : CallT} {l : List AOper} {st : Nat → St} (F : Frames call l st) (p : Nat) : ∀ r, p ≤ r → r ≤ l.length → (∀ q x, p ≤ q → q < r → l[q]? = some x → isEff x.op = false) → Grow (st p).H (st r).H := by
  intro r
  induction r with
  | zero =>
    intro h _ _
    obtain rfl : p = 0 := by omega
    exact Grow.refl _
  | succ r ih =>
    intro h hl hw
    by_cases e : p = r + 1
    · subst e; exact Grow.refl _
    · have hx : l[r]? = some l[r] := List.getElem?_eq_getElem (by omega)
      exact (ih (by omega) (by omega) fun q x h1 h2 => hw q x h1 (by omega)).trans (F.grow1 hx (hw r _ (by omega) (by omega) hx))
theorem Frames.next {call : CallT} (hc : ∀ f args H v H', call f args H = some (v, H') → H.next ≤ H'.next) {l : List AOper} {st : Nat → St} (F : Frames call l st) (p : Nat) : ∀ r, p ≤ r → r ≤ l.length → (st p).H.next ≤ (st r).H.next := by
  intro r
  induction r with
  | zero =>
    intro h _
    obtain rfl : p = 0 := by omega
    exact Nat.le_refl _
  | succ r ih =>
    intro h hl
    by_cases e : p = r + 1
    · subst e; exact Nat.le_refl _
    · have hx : l[r]? = some l[r] := List.getElem?_eq_getElem (by omega)
      refine Nat.le_trans (ih (by omega) (by omega)) ?_
      obtain ⟨v, H', h1, h2⟩ := runOp_parts (F.step r _ hx)
      rw [h1, St.put_H]
      rcases h2 with ⟨_, hop⟩ | ⟨_, _, h⟩
      · exact opC_next hc hop
      · simp only [h]; exact Nat.le_refl _

/-- Where the model stands, in whatever order: q is the place up to which the second machine's heap has gone. -/
structure DI (φ : Emb) (w0 : World) (N : Nat) (s : St) (l : List AOper) (sg : List Nat) (st : Nat → St) (n : Nat) (listed : Array Bool) (a : Act) (w : World) (φ' : Emb) (T : Trie AV) (q : Nat) : Prop where
  step : Step φ s.H φ' (st q).H
  le : q ≤ n
  sr : SR φ' w0 N ⟨T, (st q).H⟩ a w
  eff : ∀ (p : Nat) (x : AOper) (i : Nat), l[p]? = some x → sg[p]? = some i → isEff x.op = true → (listed.getD i true = true ↔ p < q)
  al : ∀ (p : Nat) (x : AOper) (i : Nat), l[p]? = some x → sg[p]? = some i → isAl x.op = true → listed.getD i true = true → p < q
  pend : ∀ (p : Nat) (x : AOper) (i : Nat), l[p]? = some x → sg[p]? = some i → isAl x.op = true → listed.getD i true = false → p < q → wanted (st p).T x.guard = some true →
    ∃ r, alF x.op (st p).T = some r ∧ φ' (.n (st p).H.next) = none ∧ (st p).H.next < (st q).H.next ∧ (st q).H.get (.n (st p).H.next) = some r.2
  t1 : ∀ (p : Nat) (x : AOper) (i t : Nat), l[p]? = some x → sg[p]? = some i → listed.getD i true = true → x.dst = some t →
    (∀ (p' : Nat) (x' : AOper) (i' : Nat), p < p' → l[p']? = some x' → sg[p']? = some i' → listed.getD i' true = true → x'.dst ≠ some t) → St.get T t = St.get (st (p + 1)).T t
  t2 : ∀ t, (∀ (p : Nat) (x : AOper) (i : Nat), l[p]? = some x → sg[p]? = some i → listed.getD i true = true → x.dst ≠ some t) → St.get T t = St.get s.T t

theorem DI.adv {call : CallT} (hc : ∀ f args H v H', call f args H = some (v, H') → H.next ≤ H'.next) {φ : Emb} {w0 : World} {N : Nat} {s : St} {l : List AOper} {sg : List Nat} {st : Nat → St} {n : Nat} {listed : Array Bool} {a : Act} {w : World} {φ' : Emb} {T : Trie AV} {q : Nat}
    (d : DI φ w0 N s l sg st n listed a w φ' T q) (F : Frames call l st) {q1 : Nat} (h1 : q ≤ q1) (h2 : q1 ≤ n) (hl : l.length = n)
    (hno : ∀ (p : Nat) (x : AOper), q ≤ p → p < q1 → l[p]? = some x → isEff x.op = false) : DI φ w0 N s l sg st n listed a w φ' T q1 := by
  have g : Grow (st q).H (st q1).H := F.grow q q1 h1 (by omega) hno
  obtain ⟨m1, m2⟩ := d.sr.h.more g
  refine ⟨d.step.trans m2, h2, ⟨d.sr.t, m1, d.sr.size, d.sr.defers⟩, ?_, ?_, ?_, d.t1, d.t2⟩
  · intro p x i hx hi he
    rw [d.eff p x i hx hi he]
    constructor
    · intro h; omega
    · intro h
      rcases Nat.lt_or_ge p q with h' | h'
      · exact h'
      · rw [hno p x h' h hx] at he; cases he
  · intro p x i hx hi he hb
    have := d.al p x i hx hi he hb
    omega
  · intro p x i hx hi ha hb hp hw
    rcases Nat.lt_or_ge p q with h' | h'
    · obtain ⟨r, e1, e2, e3, e4⟩ := d.pend p x i hx hi ha hb h' hw
      exact ⟨r, e1, e2, Nat.lt_of_lt_of_le e3 g.next, by rw [g.keep _ e3]; exact e4⟩
    · obtain ⟨r, e1, e2, _⟩ := F.al hx ha hw
      have hn := F.next hc q p h' (by omega)
      have g2 : Grow (st (p + 1)).H (st q1).H := F.grow (p + 1) q1 (by omega) (by omega) fun q' x' h3 h4 h5 => hno q' x' (by omega) h4 h5
      have e3 : (st (p + 1)).H.get (.n (st p).H.next) = some r.2 := by rw [e2, AHeap.get_alloc, if_pos rfl]
      exact ⟨r, e1, d.sr.h.fresh _ hn, AHeap.get_lt (g2.get e3), g2.get e3⟩

theorem unl_lt (n i : Nat) (hi : i < n) (A B : Nat → Bool) (hA : A i = true) (hB : B i = false) (hAB : ∀ j, B j = true → A j = true) : ((List.range n).filter B).length < ((List.range n).filter A).length := by
  induction n with
  | zero => omega
  | succ n ih =>
    rw [List.range_succ, List.filter_append, List.filter_append, List.length_append, List.length_append]
    by_cases e : i = n
    · subst e
      have hle : ((List.range i).filter B).length ≤ ((List.range i).filter A).length := by
        rw [← List.countP_eq_length_filter, ← List.countP_eq_length_filter]
        exact List.countP_mono_left fun x _ => hAB x
      simp [hA, hB]
      omega
    · have := ih (by omega)
      have h2 : ([n].filter B).length ≤ ([n].filter A).length := by
        cases hb : B n with
        | true => simp [hb, hAB n hb]
        | false => simp [hb]
      omega
end
end Go.AI
