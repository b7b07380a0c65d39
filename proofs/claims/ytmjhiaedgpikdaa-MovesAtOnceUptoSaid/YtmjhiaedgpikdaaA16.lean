/- THE SECOND MACHINE, 16: what an operation looks at; regions in their text's order. Own work. -/
import Derived.Test.YtmjhiaedgpikdaaA15
set_option linter.unusedSimpArgs false
set_option linter.unusedVariables false
namespace Go.AI

def X.ts : X → List Nat
  | .t n => [n]
  | .c _ => []
def Xs.ts (l : List X) : List Nat := l.flatMap X.ts
def Xo.ts : Option X → List Nat
  | none => []
  | some x => x.ts
def Ps.ts (l : List (Nat × Nat × X)) : List Nat := l.flatMap fun p => p.2.2.ts
def AOp.ts : AOp → List Nat
  | .mv x | .box x | .load _ x | .nilCheck x | .un _ x | .conv _ x | .mkIface _ x | .fieldAddr _ x | .field _ _ x | .extract x _ | .typeAssert x _ _ _ | .lenS x | .lenT x | .lenM x | .clear _ x => x.ts
  | .pick c a b => c.ts ++ a.ts ++ b.ts
  | .alloc _ | .mkMap | .lenA _ | .bad => []
  | .build _ ps | .bslice _ _ _ ps => Ps.ts ps
  | .store _ a x | .bin _ a x | .cmp _ _ a x | .idxAddr _ a x | .idxAddrA _ _ a x | .index _ _ _ a x | .lookup _ _ _ a x _ | .mapEntry _ _ _ a x | .append _ _ _ a x | .copy _ a x | .delete _ _ a x | .mx a x | .mn a x | .mkSlice _ _ _ a x => a.ts ++ x.ts
  | .mkFunc _ a b => Xs.ts a ++ Xs.ts b
  | .slice _ x l h m => x.ts ++ Xo.ts l ++ Xo.ts h ++ Xo.ts m
  | .mapSet _ _ m k v | .entryStore m k v => m.ts ++ k.ts ++ v.ts
  | .call f l => f.ts ++ Xs.ts l

def AOper.ts (o : AOper) : List Nat := o.op.ts ++ (match o.guard with | none => [] | some (t, _) => [t])

section
variable {T T' : Trie AV}
theorem ev_congr {x : X} (h : ∀ t ∈ x.ts, St.get T t = St.get T' t) : ev T x = ev T' x := by
  cases x with
  | t n => exact h n (by simp [X.ts])
  | c v => rfl
theorem evs_congr {l : List X} (h : ∀ t ∈ Xs.ts l, St.get T t = St.get T' t) : l.map (ev T) = l.map (ev T') :=
  List.map_congr_left fun x hx => ev_congr fun t ht => h t (by simp only [Xs.ts, List.mem_flatMap]; exact ⟨x, hx, ht⟩)
theorem fill_congr : ∀ {l : List (Nat × Nat × X)} (cs : List AV), (∀ t ∈ Ps.ts l, St.get T t = St.get T' t) → fill T cs l = fill T' cs l
  | [], cs, _ => rfl
  | (o, n, x) :: r, cs, h => by
    have hx : ev T x = ev T' x := ev_congr fun t ht => h t (by simp only [Ps.ts, List.flatMap_cons, List.mem_append]; exact .inl ht)
    have hr : ∀ cs, fill T cs r = fill T' cs r := fun cs => fill_congr cs fun t ht => h t (by simp only [Ps.ts, List.flatMap_cons, List.mem_append]; exact .inr ht)
    simp only [fill, hx, hr]
theorem bnd_congr {x : Option X} (h : ∀ t ∈ Xo.ts x, St.get T t = St.get T' t) (y d : Nat) : bnd T x y d = bnd T' x y d := by
  cases x with
  | none => rfl
  | some x => simp only [bnd, ev_congr (x := x) h]
theorem opF_congr {o : AOp} (h : ∀ t ∈ o.ts, St.get T t = St.get T' t) (H : AHeap) : opF o T H = opF o T' H := by
  have L : ∀ {x : X} {r : List Nat}, (∀ t ∈ x.ts ++ r, St.get T t = St.get T' t) → ev T x = ev T' x := fun h => ev_congr fun t ht => h t (by simp [ht])
  have R : ∀ {x : X} {r : List Nat}, (∀ t ∈ r ++ x.ts, St.get T t = St.get T' t) → ev T x = ev T' x := fun h => ev_congr fun t ht => h t (by simp [ht])
  cases o <;> simp only [AOp.ts] at h <;> first
    | (simp only [opF, ev_congr h]; done)
    | (simp only [opF, L h, R h]; done)
    | rfl
    | skip
  case load n x => cases n <;> simp only [opF, ev_congr h]
  case pick c a b =>
    have e1 : ev T c = ev T' c := ev_congr fun t ht => h t (by simp [ht])
    have e2 : ev T a = ev T' a := ev_congr fun t ht => h t (by simp [ht])
    have e3 : ev T b = ev T' b := ev_congr fun t ht => h t (by simp [ht])
    simp only [opF, e1, e2, e3]
  case build z ps => simp only [opF, fill_congr z h]
  case bslice e l z ps => simp only [opF, fill_congr z h]
  case mkFunc f a b =>
    have e1 : a.map (ev T) = a.map (ev T') := evs_congr fun t ht => h t (by simp [ht])
    have e2 : b.map (ev T) = b.map (ev T') := evs_congr fun t ht => h t (by simp [ht])
    simp only [opF, e1, e2]
  case slice e x l hh m =>
    have e1 : ev T x = ev T' x := ev_congr fun t ht => h t (by simp [ht])
    have e2 := fun y d => bnd_congr (T := T) (T' := T') (x := l) (fun t ht => h t (by simp [ht])) y d
    have e3 := fun y d => bnd_congr (T := T) (T' := T') (x := hh) (fun t ht => h t (by simp [ht])) y d
    have e4 := fun y d => bnd_congr (T := T) (T' := T') (x := m) (fun t ht => h t (by simp [ht])) y d
    simp only [opF, sliceOp, bnds, e1, e2, e3, e4]
  case mapSet ks ag m k v =>
    have e1 : ev T m = ev T' m := ev_congr fun t ht => h t (by simp [ht])
    have e2 : ev T k = ev T' k := ev_congr fun t ht => h t (by simp [ht])
    have e3 : ev T v = ev T' v := ev_congr fun t ht => h t (by simp [ht])
    simp only [opF, e1, e2, e3]
  case entryStore m k v =>
    have e1 : ev T m = ev T' m := ev_congr fun t ht => h t (by simp [ht])
    have e2 : ev T k = ev T' k := ev_congr fun t ht => h t (by simp [ht])
    have e3 : ev T v = ev T' v := ev_congr fun t ht => h t (by simp [ht])
    simp only [opF, e1, e2, e3]
theorem alF_congr {o : AOp} (h : ∀ t ∈ o.ts, St.get T t = St.get T' t) : alF o T = alF o T' := by
  have L : ∀ {x : X} {r : List Nat}, (∀ t ∈ x.ts ++ r, St.get T t = St.get T' t) → ev T x = ev T' x := fun h => ev_congr fun t ht => h t (by simp [ht])
  have R : ∀ {x : X} {r : List Nat}, (∀ t ∈ r ++ x.ts, St.get T t = St.get T' t) → ev T x = ev T' x := fun h => ev_congr fun t ht => h t (by simp [ht])
  cases o <;> simp only [AOp.ts] at h <;> first
    | rfl
    | (simp only [alF, ev_congr h]; done)
    | (simp only [alF, L h, R h]; done)
    | skip
  case bslice e l z ps => simp only [alF, fill_congr z h]
theorem opC_congr (call : CallT) {o : AOp} (h : ∀ t ∈ o.ts, St.get T t = St.get T' t) (H : AHeap) : opC call o T H = opC call o T' H := by
  cases o <;> try exact opF_congr h H
  case call f l =>
    simp only [AOp.ts] at h
    have e1 : ev T f = ev T' f := ev_congr fun t ht => h t (by simp [ht])
    have e2 : l.map (ev T) = l.map (ev T') := evs_congr fun t ht => h t (by simp [ht])
    simp only [opC, e1, e2]
theorem wanted_congr {g : Option (Nat × Bool)} (h : ∀ t ∈ (match g with | none => [] | some (t, _) => [t] : List Nat), St.get T t = St.get T' t) : wanted T g = wanted T' g := by
  cases g with
  | none => rfl
  | some p => obtain ⟨t, b⟩ := p; simp only [wanted, h t (by simp)]
end

def isEff : AOp → Bool
  | .store .. | .mapSet .. | .mapEntry .. | .entryStore .. | .call .. | .append .. | .copy .. | .clear .. | .delete .. => true
  | _ => false
def isRd : AOp → Bool
  | .load .. | .lookup .. | .lenM .. => true
  | _ => false

theorem opF_keeps {o : AOp} (h : isEff o = false) (ha : isAl o = false) {T : Trie AV} {H : AHeap} {v : AV} {H' : AHeap} (he : opF o T H = some (v, H')) : H' = H := by
  cases o <;> simp only [isEff, Bool.true_eq_false] at h <;> simp only [isAl, Bool.true_eq_false] at ha
  case load n x =>
    cases n <;> simp only [opF] at he
    · split at he
      · split at he
        · simp only [Option.some.injEq, Prod.mk.injEq] at he; exact he.2.symm
        · cases he
      · cases he
    · split at he
      · simp only [Option.map_eq_some_iff, Prod.mk.injEq] at he; obtain ⟨_, _, _, rfl⟩ := he; rfl
      · cases he
  all_goals
    simp only [opF] at he
    first
    | (simp only [Option.map_eq_some_iff, Prod.mk.injEq] at he; obtain ⟨_, _, _, rfl⟩ := he; rfl)
    | (simp only [Option.some.injEq, Prod.mk.injEq] at he; exact he.2.symm)
    | (repeat' split at he) <;> first
      | (cases he; done)
      | (simp only [Option.some.injEq, Prod.mk.injEq] at he; exact he.2.symm)
      | (simp only [Option.map_eq_some_iff, Prod.mk.injEq] at he; obtain ⟨_, _, _, rfl⟩ := he; rfl)
theorem opF_any {o : AOp} (h : isEff o = false) (ha : isAl o = false) (h2 : isRd o = false) {T : Trie AV} {H : AHeap} {v : AV} {H' : AHeap} (he : opF o T H = some (v, H')) (G : AHeap) : opF o T G = some (v, G) := by
  cases o <;> simp only [isEff, Bool.true_eq_false] at h <;> simp only [isAl, Bool.true_eq_false] at ha <;> simp only [isRd, Bool.true_eq_false] at h2 <;> simp only [opF] at he ⊢
  case mx a b =>
    split at he
    · simp only [Option.some.injEq, Prod.mk.injEq] at he ⊢
      exact ⟨he.1, trivial⟩
    · cases he
  case mn a b =>
    split at he
    · simp only [Option.some.injEq, Prod.mk.injEq] at he ⊢
      exact ⟨he.1, trivial⟩
    · cases he
  all_goals
    first
    | (simp only [Option.map_eq_some_iff, Prod.mk.injEq] at he ⊢; obtain ⟨x, h1, h2, _⟩ := he; exact ⟨x, h1, h2, rfl⟩)
    | (simp only [Option.some.injEq, Prod.mk.injEq] at he ⊢; exact ⟨he.1, rfl⟩)
    | (repeat' split at he) <;> first
      | (cases he; done)
      | (simp only [Option.some.injEq, Prod.mk.injEq] at he; simp_all)
      | (simp only [Option.map_eq_some_iff, Prod.mk.injEq] at he; obtain ⟨x, h1, h2, _⟩ := he; simp_all)

theorem loadN_grow {H G : AHeap} (g : Grow H G) {i : Id} {o n : Nat} {cs : List AV} (h : H.loadN i o n = some cs) : G.loadN i o n = some cs := by
  unfold AHeap.loadN at h ⊢
  split
  · rename_i hn
    rw [if_pos hn] at h
    exact h
  · rename_i hn
    rw [if_neg hn] at h
    cases hB : H.get i with
    | none => rw [hB] at h; cases h
    | some B => rw [g.get hB]; rw [hB] at h; exact h
/-- What is read stays when blocks are made. -/
theorem opF_rd_grow {o : AOp} (h : isRd o = true) {T : Trie AV} {H G : AHeap} (g : Grow H G) {v : AV} {H' : AHeap} (he : opF o T H = some (v, H')) : opF o T G = some (v, G) := by
  cases o <;> simp only [isRd, Bool.false_eq_true] at h
  case load n x =>
    cases n with
    | none =>
      simp only [opF] at he ⊢
      split at he
      · rename_i i p hp
        split at he
        · rename_i u hu
          cases he
          rw [loadN_grow g hu]
        · cases he
      · cases he
    | some n =>
      simp only [opF] at he ⊢
      split at he
      · rename_i i p hp
        simp only [Option.map_eq_some_iff] at he ⊢
        obtain ⟨cs, hc, he⟩ := he
        cases he
        exact ⟨cs, loadN_grow g hc, rfl⟩
      · cases he
  case lookup z kn ag m k ok =>
    simp only [opF] at he ⊢
    split at he
    · rename_i hk
      rw [if_pos hk]
      cases hm : ev T m with
      | nilmap =>
        simp only [hm] at he ⊢
        split at he
        · cases he
        · simp only [Option.some.injEq, Prod.mk.injEq] at he ⊢
          exact ⟨he.1, trivial⟩
      | map i =>
        cases hB : H.get i with
        | none => simp only [hm, hB] at he; cases he
        | some B =>
          have hG := g.get hB
          cases B with
          | map es c =>
            simp only [hm, hB] at he
            simp only [hG]
            split at he
            · cases he
            · simp only [Option.some.injEq, Prod.mk.injEq] at he ⊢
              exact ⟨he.1, trivial⟩
          | _ => simp only [hm, hB] at he; cases he
      | _ => simp only [hm] at he; cases he
    · cases he
  case lenM x =>
    simp only [opF] at he ⊢
    split at he
    · cases he; rfl
    · rename_i i hi
      cases hB : H.get i with
      | none => rw [hB] at he; cases he
      | some B =>
        rw [g.get hB]
        rw [hB] at he
        cases B <;> simp only [Option.some.injEq, Prod.mk.injEq, reduceCtorEq] at he ⊢
        exact ⟨he.1, trivial⟩
    · cases he
theorem storeN_next {H H' : AHeap} {i : Id} {o : Nat} {vs : List AV} (h : H.storeN i o vs = some H') : H.next ≤ H'.next := by
  unfold AHeap.storeN at h
  split at h
  · cases h; exact Nat.le_refl _
  · split at h
    · cases h
    · split at h
      · split at h
        · cases h; exact Nat.le_refl _
        · cases h
      · cases h
theorem appendOp_next {esz bytes : Nat} {H H' : AHeap} {s x v : AV} (h : appendOp esz bytes H s x = some (v, H')) : H.next ≤ H'.next := by
  unfold appendOp growOp at h
  (repeat' split at h) <;> first
    | (cases h; done)
    | (cases h; exact Nat.le_refl _)
    | (cases h; exact Nat.le_succ _)
    | (cases h; exact storeN_next (by assumption))
theorem opF_next {o : AOp} {T : Trie AV} {H H' : AHeap} {v : AV} (h : opF o T H = some (v, H')) : H.next ≤ H'.next := by
  cases hal : isAl o with
  | true =>
    rw [opF_al hal, Option.map_eq_some_iff] at h
    obtain ⟨r, _, h⟩ := h
    cases h
    exact Nat.le_succ _
  | false =>
    cases hef : isEff o with
    | false => rw [opF_keeps hef hal h]; exact Nat.le_refl _
    | true =>
      cases o <;> simp only [isEff, Bool.false_eq_true] at hef <;> simp only [opF] at h
      case append => exact appendOp_next h
      all_goals
        first
        | (cases h; done)
        | (repeat' split at h) <;> first
          | (cases h; done)
          | (cases h; exact Nat.le_refl _)
          | (simp only [Option.map_eq_some_iff] at h; obtain ⟨_, hs, h⟩ := h; cases h; exact storeN_next hs)
theorem opC_next {call : CallT} (hc : ∀ f args H v H', call f args H = some (v, H') → H.next ≤ H'.next) {o : AOp} {T : Trie AV} {H H' : AHeap} {v : AV} (h : opC call o T H = some (v, H')) : H.next ≤ H'.next := by
  unfold opC at h
  split at h
  · split at h
    · exact hc _ _ _ _ _ h
    · cases h
  · exact opF_next h

section
variable {P : Program}
theorem region_ok {call : CallT} (hc : CallOk P call) {w0 : World} {N : Nat} {ops : Array Oper} (Q : Exit → Act → World → Prop) :
    ∀ (l : List AOper) (k : Nat) (φ : Emb) (w : World) (s s' : St) (a : Act), (∀ j ao, l[j]? = some ao → ∃ o, ops[k + j]? = some o ∧ TrOper P ops N o ao) → SR φ w0 N s a w → runOps call l s = some s' →
      (∀ φ' a' w', Step φ s.H φ' s'.H → SR φ' w0 N s' a' w' → Q .normal a' w') → wpOps P ops Q (List.range' k l.length) a w
  | [], k, φ, w, s, s', a, hl, hS, he, hQ => by
    simp only [runOps] at he
    cases he
    exact hQ φ a w (Step.refl _ _) hS
  | ao :: l, k, φ, w, s, s', a, hl, hS, he, hQ => by
    simp only [runOps] at he
    split at he
    · rename_i s1 hs1
      obtain ⟨o, ho, ht⟩ := hl 0 ao rfl
      rw [List.length_cons, List.range'_succ, wpOps_cons]
      refine runOp_ok hc ht hS hs1 ho Q _ ?_
      intro φ' v v' w' hle _ _ _ hS'
      refine region_ok hc Q l (k + 1) φ' w' s1 s' _ ?_ hS' he fun φ2 a2 w2 hle2 hS2 => hQ φ2 a2 w2 (Step.trans hle hle2) hS2
      intro j ao' hj
      have := hl (j + 1) ao' (by simpa using hj)
      rwa [show k + (j + 1) = k + 1 + j by omega] at this
    · cases he
end
end Go.AI
