/- THE DATA MACHINE, 4: what reads, on both machines. Own work. -/
import Derived.Test.YtmjhiaedgpikdaaB3
import Derived.Test.YtmjhiaedgpikdaaA23
set_option linter.unusedSimpArgs false
set_option linter.unusedVariables false
namespace Go.AI

def litB : AV → Bool
  | .bool _ | .int _ _ | .str _ => true
  | _ => false
theorem DV.lit {C : Ctx} {a b : AV} (h : DV C a b) (hl : litB a = true) : b = a := by
  cases a <;> first
    | exact h
    | cases hl
theorem lit_DV (C : Ctx) {a : AV} (hl : litB a = true) : DV C a a := by
  cases a <;> first
    | rfl
    | cases hl
theorem intBits_lit {op : BinOp} {k : IntKind} {a b : Int} {v : AV} (h : intBits op k a b = some v) : litB v = true := by
  unfold intBits at h
  simp only at h
  split at h <;> first
    | (cases h; rfl)
    | cases h
theorem binInt_lit {op : BinOp} {k : IntKind} {a b : Int} {v : AV} (h : binInt op k a b = some v) : litB v = true := by
  unfold binInt at h
  split at h <;> first
    | (cases h; rfl)
    | exact intBits_lit h
    | (split at h <;> first | (cases h; rfl) | cases h)
    | cases h
theorem binShift_lit {op : BinOp} {k : IntKind} {a b : Int} {v : AV} (h : binShift op k a b = some v) : litB v = true := by
  unfold binShift at h
  split at h
  · cases h
  · split at h <;> first
      | (cases h; rfl)
      | cases h
theorem binA_lit {op : BinOp} {x y v : AV} (h : binA op x y = some v) : litB x = true ∧ litB y = true ∧ litB v = true := by
  unfold binA at h
  split at h
  · split at h
    · exact ⟨rfl, rfl, binShift_lit h⟩
    · split at h
      · exact ⟨rfl, rfl, binInt_lit h⟩
      · cases h
  · cases h
theorem unA_lit {op : UnOp} {x v : AV} (h : unA op x = some v) : litB x = true ∧ litB v = true := by
  unfold unA at h
  split at h <;> first
    | (cases h; exact ⟨rfl, rfl⟩)
    | exact ⟨rfl, intBits_lit h⟩
    | cases h
section
variable {C : Ctx}
theorem binA_ok {op : BinOp} {x y x' y' v : AV} (hx : DV C x x') (hy : DV C y y') (h : binA op x y = some v) : binA op x' y' = some v ∧ DV C v v := by
  obtain ⟨h1, h2, h3⟩ := binA_lit h
  rw [hx.lit h1, hy.lit h2]
  exact ⟨h, lit_DV C h3⟩
theorem unA_ok {op : UnOp} {x x' v : AV} (hx : DV C x x') (h : unA op x = some v) : unA op x' = some v ∧ DV C v v := by
  obtain ⟨h1, h3⟩ := unA_lit h
  rw [hx.lit h1]
  exact ⟨h, lit_DV C h3⟩
theorem cellEq_lit {k : CK} {a b : AV} {r : Bool} (h : cellEq k a b = some r) : litB a = true ∧ litB b = true := by
  unfold cellEq at h
  split at h <;> first
    | exact ⟨rfl, rfl⟩
    | cases h
theorem cellsEq_ok : ∀ {ks : List CK} {a b a' b' : List AV} {r : Bool}, DVs C a a' → DVs C b b' → cellsEq ks a b = some r → a' = a ∧ b' = b
  | [], [], [], a', b', r, h1, h2, _ => ⟨h1, h2⟩
  | [], _ :: _, _, _, _, _, _, _, h => by simp [cellsEq] at h
  | [], [], _ :: _, _, _, _, _, _, h => by simp [cellsEq] at h
  | _ :: _, [], _, _, _, _, _, _, h => by simp [cellsEq] at h
  | _ :: _, _ :: _, [], _, _, _, _, _, h => by simp [cellsEq] at h
  | k :: ks, a :: as, b :: bs, a', b', r, h1, h2, h => by
    obtain ⟨x, xs, rfl, hx, hxs⟩ := h1
    obtain ⟨y, ys, rfl, hy, hys⟩ := h2
    unfold cellsEq at h
    split at h
    · rename_i r1 hr
      split at h
      · rename_i r2 hr2
        obtain ⟨l1, l2⟩ := cellEq_lit hr
        obtain ⟨e1, e2⟩ := cellsEq_ok hxs hys hr2
        rw [hx.lit l1, hy.lit l2, e1, e2]
        exact ⟨rfl, rfl⟩
      · cases h
    · cases h
theorem cmpD_ok {t : CmpT} {x y x' y' : AV} {r : Bool} (hx : DV C x x') (hy : DV C y y') (h : cmpD t x y = some r) : cmpOp t x' y' = some r := by
  unfold cmpD at h
  split at h <;> first
    | (cases h; cases hx; obtain ⟨_, i, p, rfl, _⟩ := hy; rfl)
    | (cases h; cases hy; obtain ⟨_, i, p, rfl, _⟩ := hx; rfl)
    | (cases h; cases hx; obtain ⟨i, p, _, rfl, _⟩ := hy; rfl)
    | (cases h; cases hy; obtain ⟨i, p, _, rfl, _⟩ := hx; rfl)
    | (cases h; done)
    | skip
  unfold cmpOp at h
  have ptrS : ∀ {i : Id} {o : Nat} {b : AV}, DV C (.ptr i o) b → ∃ j p, b = .ptr j p := by
    intro i o b hb
    cases i with
    | n k => obtain ⟨_, j, p, rfl, _⟩ := hb; exact ⟨_, _, rfl⟩
    | o g => cases hb; exact ⟨_, _, rfl⟩
  have mapS : ∀ {i : Id} {b : AV}, DV C (.map i) b → ∃ j, b = .map j := by
    intro i b hb
    cases i with
    | n k => obtain ⟨_, j, rfl, _⟩ := hb; exact ⟨_, rfl⟩
    | o g => exact hb.elim
  split at h <;> first
    | (cases hx; cases hy; exact h)
    | (cases hx; obtain ⟨_, _, rfl⟩ := ptrS hy; exact h)
    | (cases hy; obtain ⟨_, _, rfl⟩ := ptrS hx; exact h)
    | (cases hx; obtain ⟨_, rfl⟩ := mapS hy; exact h)
    | (cases hy; obtain ⟨_, rfl⟩ := mapS hx; exact h)
    | (cases hx; obtain ⟨_, _, rfl, _⟩ := hy; exact h)
    | (cases hy; obtain ⟨_, _, rfl, _⟩ := hx; exact h)
    | (obtain ⟨_, rfl, h1⟩ := hx; obtain ⟨_, rfl, h2⟩ := hy; obtain ⟨e1, e2⟩ := cellsEq_ok h1 h2 h; rw [e1, e2]; exact h)
    | (cases hx; obtain ⟨_, rfl, _⟩ := hy; exact h)
    | (cases hy; obtain ⟨_, rfl, _⟩ := hx; exact h)
    | cases h
    | skip
  all_goals (rename_i hn1 hn2; exact absurd rfl (by assumption))
end

/-! ### constants -/
 mutual
def cst : AV → Bool
  | .bool _ | .int _ _ | .str _ | .nilptr | .nilmap | .nilfunc | .niliface | .nilslc => true
  | .ptr (.o _) _ => true
  | .func _ a b => csts a && csts b
  | .iface _ v => cst v
  | .agg cs => csts cs
  | .tuple cs => csts cs
  | _ => false
 termination_by structural x => x
def csts : List AV → Bool
  | [] => true
  | v :: r => cst v && csts r
 termination_by structural x => x
end
 mutual
theorem cst_DV (C : Ctx) : ∀ {v : AV}, cst v = true → DV C v v
  | .bool _, _ => rfl
  | .int _ _, _ => rfl
  | .str _, _ => rfl
  | .nilptr, _ => rfl
  | .nilmap, _ => rfl
  | .nilfunc, _ => rfl
  | .niliface, _ => rfl
  | .nilslc, _ => .inl rfl
  | .ptr (.o _) _, _ => rfl
  | .ptr (.n _) _, h => by cases h
  | .func f a b, h => by
    have h : (csts a && csts b) = true := h
    rw [Bool.and_eq_true] at h
    exact ⟨a, b, rfl, csts_DV C h.1, csts_DV C h.2⟩
  | .iface t v, h => ⟨v, rfl, cst_DV C (v := v) h⟩
  | .agg cs, h => ⟨cs, rfl, csts_DV C (l := cs) h⟩
  | .tuple cs, h => ⟨cs, rfl, csts_DV C (l := cs) h⟩
  | .slc _ _ _ _ _, h => by cases h
  | .map _, h => by cases h
  | .junk, h => by cases h
  | .lst _, h => by cases h
  | .fptr _ _, h => by cases h
  | .eptr _ _ _ _, h => by cases h
 termination_by structural x => x
theorem csts_DV (C : Ctx) : ∀ {l : List AV}, csts l = true → DVs C l l
  | [], _ => rfl
  | v :: r, h => by
    have h : (cst v && csts r) = true := h
    rw [Bool.and_eq_true] at h
    exact DVs.cons (cst_DV C h.1) (csts_DV C h.2)
 termination_by structural x => x
end
def okX : X → Bool
  | .t _ => true
  | .c v => cst v
def okO : Option X → Bool
  | none => true
  | some x => okX x
def okP (l : List (Nat × Nat × X)) : Bool := l.all fun p => okX p.2.2
def okOp : AOp → Bool
  | .mv x => okX x
  | .pick c a b => okX c && okX a && okX b
  | .alloc cs => csts cs
  | .box x => okX x
  | .build z parts => csts z && okP parts
  | .bslice _ _ z parts => csts z && okP parts
  | .load _ a => okX a
  | .store _ a x => okX a && okX x
  | .nilCheck x => okX x
  | .bin _ x y => okX x && okX y
  | .cmp _ _ x y => okX x && okX y
  | .un _ x => okX x
  | .conv _ x => okX x
  | .mkIface _ x => okX x
  | .mkFunc _ a b => a.all okX && b.all okX
  | .mkMap => true
  | .mkSlice _ _ z l c => csts z && okX l && okX c
  | .slice _ x lo hi mx => okX x && okO lo && okO hi && okO mx
  | .fieldAddr _ x => okX x
  | .field _ _ x => okX x
  | .idxAddr _ x i => okX x && okX i
  | .idxAddrA _ _ x i => okX x && okX i
  | .index _ _ _ x i => okX x && okX i
  | .lookup z _ _ m k _ => cst z && okX m && okX k
  | .mapSet _ _ m k v => okX m && okX k && okX v
  | .mapEntry z _ _ m k => cst z && okX m && okX k
  | .entryStore m s v => okX m && okX s && okX v
  | .extract x _ => okX x
  | .typeAssert x _ z _ => okX x && cst z
  | .call f args => okX f && args.all okX
  | .lenS x => okX x
  | .lenT x => okX x
  | .lenM x => okX x
  | .lenA _ => true
  | .append _ _ _ s x => okX s && okX x
  | .copy _ d s => okX d && okX s
  | .clear z x => csts z && okX x
  | .delete _ _ m k => okX m && okX k
  | .mx a b => okX a && okX b
  | .mn a b => okX a && okX b
  | .bad => true
def okC : ACode → Bool
  | .region ops => ops.all fun o => okOp o.op
  | .regionD ops => ops.all fun d => okOp d.o.op && d.re.all fun o => okOp o.op
  | .seq a b => okC a && okC b
  | .cond c a b => okX c && okC a && okC b
  | .block _ b => okC b
  | .loop b => okC b
  | _ => true

def DT (C : Ctx) (T T' : Trie AV) : Prop := ∀ n, DV C (St.get T n) (St.get T' n)
section
variable {C : Ctx} {T T' : Trie AV}
theorem DT.ext {D : Ctx} (h : DT C T T') (e : Ext C D) : DT D T T' := fun n => (h n).ext e
theorem DT.put (h : DT C T T') {a b : AV} (hv : DV C a b) (d : Nat) : DT C (T.put d (some a)) (T'.put d (some b)) := by
  intro n
  simp only [St.get, Trie.get_put]
  by_cases e : n = d
  · simpa [e] using hv
  · have := h n
    simp only [St.get] at this
    simpa [e] using this
theorem ev_ok (h : DT C T T') {x : X} (hx : okX x = true) : DV C (ev T x) (ev T' x) := by
  cases x with
  | t n => exact h n
  | c v => exact cst_DV C hx
theorem evs_ok (h : DT C T T') : ∀ {l : List X}, l.all okX = true → DVs C (l.map (ev T)) (l.map (ev T'))
  | [], _ => rfl
  | x :: l, hx => by
    rw [List.all_cons, Bool.and_eq_true] at hx
    exact DVs.cons (ev_ok h hx.1) (evs_ok h hx.2)
theorem fill_ok (h : DT C T T') : ∀ {ps : List (Nat × Nat × X)} {cs cs' r : List AV}, okP ps = true → DVs C cs cs' → fill T cs ps = some r → ∃ r', fill T' cs' ps = some r' ∧ DVs C r r'
  | [], cs, cs', r, _, hc, hf => by
    cases hf
    exact ⟨cs', rfl, hc⟩
  | (off, n, x) :: ps, cs, cs', r, hk, hc, hf => by
    simp only [okP, List.all_cons, Bool.and_eq_true] at hk
    have hv := ev_ok h hk.1
    simp only [fill] at hf
    split at hf
    · rename_i hcnd
      obtain ⟨h1, h2, h3⟩ := hcnd
      have hcells := hv.cells h1
      obtain ⟨r', hr, hd⟩ := fill_ok h hk.2 (hc.lay off hcells) hf
      refine ⟨r', ?_, hd⟩
      simp only [fill]
      rw [if_pos ⟨hv.okb h1, by rw [← hcells.length]; exact h2, by rw [← hc.length]; exact h3⟩]
      exact hr
    · cases hf
theorem partA_ok {cs cs' : List AV} (h : DVs C cs cs') {off : Nat} {n : Option Nat} {v : AV} (hp : partA cs off n = some v) : ∃ v', partA cs' off n = some v' ∧ DV C v v' := by
  cases n with
  | none => exact h.get hp
  | some n =>
    simp only [partA, Option.map_eq_some_iff] at hp ⊢
    obtain ⟨r, hr, rfl⟩ := hp
    obtain ⟨r', h1, h2⟩ := h.seg hr
    exact ⟨_, ⟨r', h1, rfl⟩, r', rfl, h2⟩
theorem fieldF_ok {a a' : AV} (h : DV C a a') {off : Nat} {n : Option Nat} {v : AV} (hp : fieldF off n a = some v) : ∃ v', fieldF off n a' = some v' ∧ DV C v v' := by
  cases a with
  | agg cs => obtain ⟨cs', rfl, hc⟩ := h; exact partA_ok hc hp
  | _ => cases hp
theorem extF_ok {a a' : AV} (h : DV C a a') {i : Nat} {v : AV} (hp : extF i a = some v) : ∃ v', extF i a' = some v' ∧ DV C v v' := by
  cases a with
  | tuple cs => obtain ⟨cs', rfl, hc⟩ := h; exact hc.get hp
  | _ => cases hp
theorem convF_ok {a a' : AV} (h : DV C a a') {k : IntKind} {v : AV} (hp : convF k a = some v) : convF k a' = some v ∧ DV C v v := by
  cases a with
  | int j n => cases h; refine ⟨hp, ?_⟩; cases hp; exact rfl
  | _ => cases hp
theorem pickF_ok {c a b c' a' b' : AV} (hc : DV C c c') (ha : DV C a a') (hb : DV C b b') {v : AV} (hp : pickF c a b = some v) : ∃ v', pickF c' a' b' = some v' ∧ DV C v v' := by
  cases c with
  | bool t =>
    cases hc
    cases hp
    cases t
    · exact ⟨b', rfl, hb⟩
    · exact ⟨a', rfl, ha⟩
  | _ => cases hp
theorem indexV_ok {a i a' i' : AV} (ha : DV C a a') (hi : DV C i i') {esz len : Nat} {n : Option Nat} {v : AV} (hp : indexV esz len n a i = some v) : ∃ v', indexV esz len n a' i' = some v' ∧ DV C v v' := by
  unfold indexV at hp
  split at hp
  · obtain ⟨cs', rfl, hc⟩ := ha
    cases hi
    simp only [indexV]
    split at hp
    · rename_i hc2
      rw [if_pos hc2]
      exact partA_ok hc hp
    · cases hp
  · cases hp
theorem mxV_ok {a b a' b' : AV} (ha : DV C a a') (hb : DV C b b') {v : AV} (hp : mxV a b = some v) : mxV a' b' = some v ∧ DV C v v := by
  unfold mxV at hp
  split at hp
  · cases ha; cases hb; refine ⟨hp, ?_⟩; cases hp; exact rfl
  · cases hp
theorem mnV_ok {a b a' b' : AV} (ha : DV C a a') (hb : DV C b b') {v : AV} (hp : mnV a b = some v) : mnV a' b' = some v ∧ DV C v v := by
  unfold mnV at hp
  split at hp
  · cases ha; cases hb; refine ⟨hp, ?_⟩; cases hp; exact rfl
  · cases hp
theorem assertV_ok {a a' : AV} (ha : DV C a a') {t : TypeId} {z : AV} (hz : cst z = true) {ok : Bool} {v : AV} (hp : assertV t z ok a = some v) : ∃ v', assertV t z ok a' = some v' ∧ DV C v v' := by
  have hzz := cst_DV C hz
  have hf : DV C (.tuple [z, .bool false]) (.tuple [z, .bool false]) := ⟨_, rfl, DVs.cons hzz (DVs.cons rfl rfl)⟩
  unfold assertV at hp
  split at hp
  · cases ha
    split at hp
    · rename_i h1
      cases hp
      exact ⟨_, by simp only [assertV, h1, if_true], hf⟩
    · cases hp
  · rename_i u x
    obtain ⟨y, rfl, hy⟩ := ha
    simp only [assertV]
    split at hp
    · rename_i h1
      rw [if_pos h1]
      cases hp
      cases ok
      · exact ⟨y, rfl, hy⟩
      · exact ⟨_, rfl, _, rfl, DVs.cons hy (DVs.cons rfl rfl)⟩
    · rename_i h1
      rw [if_neg h1]
      split at hp
      · rename_i h2
        cases hp
        exact ⟨_, by rw [if_pos h2], hf⟩
      · cases hp
  · cases hp
theorem nilChk_ok {a a' : AV} (ha : DV C a a') {v : AV} (hp : nilChk a = some v) : v = a ∧ ∀ H, opF (.nilCheck (.c a')) .leaf H = some (a', H) := by
  cases a <;> first
    | (cases hp; done)
    | skip
  · rename_i i o
    cases hp
    refine ⟨rfl, fun H => ?_⟩
    cases i with
    | n k => obtain ⟨_, j, p, rfl, _⟩ := ha; rfl
    | o g => cases ha; rfl
  · cases hp
    obtain ⟨_, _, rfl, _⟩ := ha
    exact ⟨rfl, fun _ => rfl⟩
  · cases hp
    obtain ⟨_, _, _, rfl, _⟩ := ha
    exact ⟨rfl, fun _ => rfl⟩
  · cases hp
    obtain ⟨_, _, _, rfl, _⟩ := ha
    exact ⟨rfl, fun _ => rfl⟩
theorem addD_ok {a a' : AV} (ha : DV C a a') {off : Nat} {v : AV} (hp : addD off a = some v) : ∃ v', addP off a' = some v' ∧ DV C v v' := by
  cases a <;> first
    | (cases hp; done)
    | skip
  · rename_i i o
    cases hp
    cases i with
    | n k =>
      obtain ⟨hk, j, p, rfl, hc⟩ := ha
      exact ⟨_, rfl, hk, j, _, rfl, fun cs hcs => ⟨(hc cs hcs).1, by rw [(hc cs hcs).2]⟩⟩
    | o g => cases ha; exact ⟨_, rfl, rfl⟩
  · rename_i cs o
    cases hp
    obtain ⟨i, p, cs', rfl, h1, h2⟩ := ha
    exact ⟨_, rfl, i, p, cs', by rw [Nat.add_assoc], h1, h2⟩
  · rename_i k ver row o
    cases hp
    obtain ⟨hk, i, p, rfl, hc⟩ := ha
    refine ⟨_, rfl, hk, i, _, rfl, fun e rs g h => ⟨(hc e rs g h).1, fun he => ?_⟩⟩
    obtain ⟨h1, h2⟩ := (hc e rs g h).2 he
    exact ⟨h1, by rw [h2, Nat.add_assoc]⟩
end

/-! ### rows -/
theorem evenB_iff {n : Nat} : ∀ {rs : List (List AV)}, evenB n rs = true ↔ Even n rs
  | [] => ⟨fun _ => Even.nil n, fun _ => rfl⟩
  | r :: rs => by
    unfold evenB
    rw [Bool.and_eq_true, evenB_iff (rs := rs), Nat.beq_eq]
    exact ⟨fun h => h.2.cons h.1, fun h => ⟨h r List.mem_cons_self, h.tail⟩⟩
theorem purR_iff : ∀ {rs : List (List AV)}, purR rs = true ↔ ∀ r ∈ rs, purs r = true
  | [] => ⟨fun _ r h => (nomatch h), fun _ => rfl⟩
  | r :: rs => by
    unfold purR
    rw [Bool.and_eq_true, purR_iff (rs := rs)]
    constructor
    · rintro ⟨h1, h2⟩ x hx
      rcases List.mem_cons.1 hx with rfl | hx
      · exact h1
      · exact h2 x hx
    · exact fun h => ⟨h r List.mem_cons_self, fun x hx => h x (List.mem_cons_of_mem _ hx)⟩
theorem oneR_iff : ∀ {rs : List (List AV)}, oneR rs = true ↔ rs.flatten.all AV.one = true
  | [] => ⟨fun _ => rfl, fun _ => rfl⟩
  | r :: rs => by
    unfold oneR
    rw [List.flatten_cons, List.all_append, Bool.and_eq_true, Bool.and_eq_true, oneR_iff (rs := rs)]
theorem purs_iff : ∀ {l : List AV}, purs l = true ↔ ∀ v ∈ l, pur v = true
  | [] => ⟨fun _ r h => (nomatch h), fun _ => rfl⟩
  | r :: rs => by
    have e : purs (r :: rs) = (pur r && purs rs) := rfl
    rw [e, Bool.and_eq_true, purs_iff (l := rs)]
    constructor
    · rintro ⟨h1, h2⟩ x hx
      rcases List.mem_cons.1 hx with rfl | hx
      · exact h1
      · exact h2 x hx
    · exact fun h => ⟨h r List.mem_cons_self, fun x hx => h x (List.mem_cons_of_mem _ hx)⟩
theorem flat_row {e : Nat} {rs : List (List AV)} (h : Even e rs) {j : Nat} {r : List AV} (hj : rs[j]? = some r) {p n : Nat} (hp : p + n ≤ e) : seg rs.flatten (j * e + p) n = some ((r.drop p).take n) := by
  obtain ⟨hlt, hr⟩ := List.getElem?_eq_some_iff.1 hj
  have h1 := flat_seg h (a := j) (n := 1) (by omega)
  have e1 : (rs.drop j).take 1 = [r] := by
    rw [List.drop_eq_getElem_cons hlt, hr]
    rfl
  rw [e1, Nat.one_mul] at h1
  have := seg_of_seg h1 hp
  simpa using this
theorem seg_some {cs : List AV} {o n : Nat} {r : List AV} (h : seg cs o n = some r) : o + n ≤ cs.length ∧ r = (cs.drop o).take n := by
  unfold seg at h
  split at h
  · rename_i hle
    cases h
    exact ⟨hle, rfl⟩
  · cases h
theorem loadN_cells {H : AHeap} {i : Id} {cs : List AV} {s o n : Nat} {r : List AV} (h : H.get i = some (.cells cs s)) (hs : seg cs o n = some r) : H.loadN i o n = some r := by
  unfold AHeap.loadN
  by_cases hn : n = 0
  · subst hn
    obtain ⟨_, rfl⟩ := seg_some hs
    simp
  · rw [if_neg hn, h]
    exact hs
section
variable {C : Ctx}
theorem DVr.row {rs : List (List AV)} {l : List AV} (h : DVr C rs l) {e : Nat} (he : Even e rs) {j : Nat} {r : List AV} (hj : rs[j]? = some r) {p n : Nat} (hp : p + n ≤ e) : ∃ x, seg l (j * e + p) n = some x ∧ DVs C ((r.drop p).take n) x :=
  (DVr_iff.1 h).seg (flat_row he hj hp)
theorem DVr.length {rs : List (List AV)} {l : List AV} (h : DVr C rs l) {e : Nat} (he : Even e rs) : l.length = rs.length * e := by
  rw [← (DVr_iff.1 h).length, flat_length he]

variable {K : Id → Prop} {E : DEnv}
theorem readN_ok (hI : Inv K E.glob C) {n : Nat} {a a' : AV} (ha : DV C a a') {r : List AV} (h : readN E C.L n a = some r) : ∃ i o r', a' = .ptr i o ∧ C.H.loadN i o n = some r' ∧ DVs C r r' := by
  cases a with
  | ptr i off =>
    cases i with
    | n k =>
      obtain ⟨_, j, p, rfl, hc⟩ := ha
      simp only [readN] at h
      split at h
      · rename_i cs hcs
        obtain ⟨rfl, rfl⟩ := hc cs hcs
        obtain ⟨cs', s, h1, h2⟩ := hI.blk k _ hcs
        obtain ⟨r', h3, h4⟩ := h2.seg h
        exact ⟨_, _, r', rfl, loadN_cells h1 h3, h4⟩
      · cases h
    | o g =>
      cases ha
      simp only [readN] at h
      split at h
      · rename_i cs hcs
        obtain ⟨_, _, cs', s, h1, h2⟩ := hI.glob g cs hcs
        obtain ⟨r', h3, h4⟩ := h2.seg h
        exact ⟨_, _, r', rfl, loadN_cells h1 h3, h4⟩
      · cases h
  | fptr cs off =>
    obtain ⟨i, p, cs', rfl, _, _, h1, h2⟩ := ha
    simp only [readN] at h
    obtain ⟨hle, rfl⟩ := seg_some h
    have := loadN_part h1 hle
    exact ⟨_, _, _, rfl, this, (h2.drop off).take n⟩
  | eptr k ver row off =>
    obtain ⟨_, i, p, rfl, hc⟩ := ha
    simp only [readN] at h
    split at h
    · rename_i e rs g hB
      split at h
      · rename_i hv
        split at h
        · rename_i r0 hr0
          obtain ⟨_, h2⟩ := hc e rs g hB
          obtain ⟨rfl, rfl⟩ := h2 (Nat.eq_of_beq_eq_true hv)
          have hb := hI.blk k _ hB
          have hne : real (.rows e rs g) = true := by
            cases rs with
            | nil => simp at hr0
            | cons _ _ => rfl
          obtain ⟨cs', h3, h4⟩ := hb.2 hne
          have hev := evenB_iff.1 hb.1
          obtain ⟨hle, rfl⟩ := seg_some h
          rw [hev.get hr0] at hle
          obtain ⟨x, h5, h6⟩ := h4.row hev hr0 hle
          exact ⟨_, _, x, rfl, loadN_cells h3 h5, h6⟩
        · cases h
      · cases h
    · cases h
  | _ => cases h
theorem loadD_ok (hI : Inv K E.glob C) {n : Option Nat} {a a' : AV} (ha : DV C a a') {v : AV} (h : loadD E C.L n a = some v) : ∃ v', loadOp C.H a' n = some v' ∧ DV C v v' := by
  unfold loadD at h
  cases n with
  | none =>
    simp only at h
    split at h
    · rename_i v0 hr
      cases h
      obtain ⟨i, o, r', rfl, h1, h2⟩ := readN_ok hI ha hr
      obtain ⟨b, rfl, hb⟩ := DVs.one_iff.1 h2
      exact ⟨b, by rw [loadOp_ptr1, h1]; rfl, hb⟩
    · cases h
  | some n =>
    simp only [Option.map_eq_some_iff] at h
    obtain ⟨r, hr, rfl⟩ := h
    obtain ⟨i, o, r', rfl, h1, h2⟩ := readN_ok hI ha hr
    exact ⟨.agg r', by rw [loadOp_ptr, h1]; rfl, r', rfl, h2⟩
end
end Go.AI
