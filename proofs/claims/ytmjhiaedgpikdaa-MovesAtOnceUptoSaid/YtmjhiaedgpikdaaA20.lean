/- THE SECOND MACHINE, 20: the world in which a call begins, read; what a typed reading says there. Own work. -/
import Derived.Test.YtmjhiaedgpikdaaA19
import Derived.ProofKit
import Derived.SizedLaws
set_option linter.unusedSimpArgs false
set_option linter.unusedVariables false
namespace Go.AI

/-! ### the start -/
def al0 : Value → AV
  | .bool b => .bool b
  | .int k n => .int k n
  | .string s => .str s
  | .pointer none => .nilptr
  | .pointer (some a) => if a.spot = none then .ptr (.o a.block) a.off else .junk
  | .slice none 0 0 => .nilslc
  | .slice (some a) len c => if len ≤ c ∧ (c = 0 ∨ a.spot = none) then .slc (.o a.block) a.off len c false else .junk
  | .map none => .nilmap
  | .map (some b) => .map (.o b)
  | .nilFunc => .nilfunc
  | .nilIface => .niliface
  | _ => .junk
def al1 : Value → AV
  | .agg cs => .agg (cs.toList.map al0)
  | v => al0 v
/-- A cell's value. -/
def alc : Value → AV
  | .iface t v => .iface t (al1 v)
  | v => al0 v
def al : Value → AV
  | .agg cs => .agg (cs.toList.map alc)
  | v => alc v
def emb0 (W : World) : Emb := fun
  | .o n => some ⟨n, 0, 0, decide (W.heap.size ≤ n)⟩
  | .n _ => none
def old0 (W : World) (n : Nat) : Option ABlk :=
  match W.heap[n]? with
  | some (.cells c _ _) => some (.cells (c.toList.map alc) 0)
  | some (.map es clock) => some (.map (es.toList.map fun e => (al e.key, al e.val, e.born)) clock)
  | _ => none
def heap0 (W : World) : AHeap := ⟨old0 W, .leaf, 0⟩

theorem al0_VR (W : World) (v : Value) : VR (emb0 W) (al0 v) v := by
  unfold al0
  split <;> first
    | rfl
    | trivial
    | skip
  · split
    · rename_i a h
      exact ⟨_, rfl, by obtain ⟨b, o, s⟩ := a; simp at h; subst h; simp⟩
    · trivial
  · split
    · rename_i a len c h
      exact ⟨h.1, _, rfl, a, c, rfl, by simp, fun hc => by
        obtain ⟨b, o, s⟩ := a
        have := h.2.resolve_left hc
        simp at this
        subst this
        simp⟩
    · trivial
  · exact ⟨_, rfl, rfl⟩
theorem al0s_VR (W : World) (l : List Value) : VRs (emb0 W) (l.map al0) l := by
  have := VRs.map (φ := emb0 W) al0 id l fun x _ => al0_VR W x
  simpa using this
theorem al1_VR (W : World) (v : Value) : VR (emb0 W) (al1 v) v := by
  unfold al1
  split
  · exact ⟨_, rfl, al0s_VR W _⟩
  · exact al0_VR W v
theorem alc_VR (W : World) (v : Value) : VR (emb0 W) (alc v) v := by
  unfold alc
  split
  · exact ⟨_, rfl, al1_VR W _⟩
  · exact al0_VR W v
theorem alcs_VR (W : World) (l : List Value) : VRs (emb0 W) (l.map alc) l := by
  have := VRs.map (φ := emb0 W) alc id l fun x _ => alc_VR W x
  simpa using this
theorem al_VR (W : World) (v : Value) : VR (emb0 W) (al v) v := by
  unfold al
  split
  · exact ⟨_, rfl, alcs_VR W _⟩
  · exact alc_VR W v
theorem als_VR (W : World) (l : List Value) : VRs (emb0 W) (l.map al) l := by
  have := VRs.map (φ := emb0 W) al id l fun x _ => al_VR W x
  simpa using this

theorem Rel.start (W : World) : Rel (emb0 W) W (heap0 W) W := by
  refine ⟨?_, ?_, ?_, fun k _ => rfl, fun k l h => (by cases h), fun n => ⟨_, rfl⟩, Go.RowKit.Below.refl _ _⟩
  · intro i B l hi hl
    cases i with
    | n k => simp [AHeap.get_n, heap0] at hi
    | o n =>
      cases hl
      have hi : old0 W n = some B := hi
      unfold old0 at hi
      have hlt : n < W.heap.size := by
        cases hW : W.heap[n]? with
        | none => rw [hW] at hi; cases hi
        | some o => exact (Array.getElem?_eq_some_iff.1 hW).1
      refine ⟨decide_eq_false (Nat.not_le.2 hlt), ?_⟩
      split at hi
      · rename_i c t fz hW
        cases hi
        refine ⟨c, t, fz, hW, fun h => by simp [Id.isNew] at h, ?_, by simp⟩
        rw [List.drop_zero, List.length_map, List.take_length]
        exact alcs_VR W _
      · rename_i es clock hW
        cases hi
        refine ⟨es, hW, by simp, ?_, ?_⟩
        · have := als_VR W (es.toList.map (·.key))
          simpa [Function.comp_def] using this
        · have := als_VR W (es.toList.map (·.val))
          simpa [Function.comp_def] using this
      · cases hi
  · intro i j l m hi hj _ _ hb
    cases i <;> cases j <;> simp only [emb0, Option.some.injEq, reduceCtorEq] at hi hj
    subst hi; subst hj
    simp at hb
    rw [hb]
  · intro i l hi hd
    cases i with
    | n k => cases hi
    | o n =>
      cases hi
      simpa using hd

/-! ### what a type says -/
def HasT (P : Program) (H : AHeap) : Nat → TypeId → List AV → Prop
  | 0, _, _ => False
  | f + 1, t, cs => match P.underlying t with
    | some .bool => ∃ b, cs = [.bool b]
    | some (.int k) => ∃ n, cs = [.int k n] ∧ (Lit.int k n).wf = true
    | some .string => ∃ s, cs = [.str s] ∧ s.size ≤ reachBytes
    | some (.pointer e) => cs = [.nilptr] ∨ P.cellsOf e = 0 ∨ ∃ i o cs', cs = [.ptr (.o i) o] ∧ H.loadN (.o i) o (P.cellsOf e) = some cs' ∧ HasT P H f e cs'
    | some (.slice e) => cs = [.nilslc] ∨ P.cellsOf e = 0 ∨ ∃ i o len cap, cs = [.slc (.o i) o len cap false] ∧ len ≤ cap ∧ cap ≤ maxLen ∧ cap * P.bytesOf e ≤ reachBytes ∧
        ∀ j, j < cap → ∃ cs', H.loadN (.o i) (o + j * P.cellsOf e) (P.cellsOf e) = some cs' ∧ HasT P H f e cs'
    | some (.struct fs) => cs.length = P.cellsOf t ∧ ∀ x ∈ fs.toList, HasT P H f x.type ((cs.drop x.offset).take (P.cellsOf x.type))
    | some (.array n e) => cs.length = P.cellsOf t ∧ ∀ i, i < n → HasT P H f e ((cs.drop (i * P.cellsOf e)).take (P.cellsOf e))
    | _ => True
def HasV (P : Program) (H : AHeap) (t : TypeId) (v : AV) : Prop :=
  match P.underlying t with
  | some (.struct _) | some (.array _ _) => ∃ cs f, v = .agg cs ∧ HasT P H f t cs
  | _ => ∃ f, HasT P H f t [v]
def HasVs (P : Program) (H : AHeap) : List TypeId → List AV → Prop
  | [], vs => vs = []
  | t :: ts, vs => ∃ v r, vs = v :: r ∧ HasV P H t v ∧ HasVs P H ts r

theorem mapM_get {α β : Type} {f : α → Option β} : ∀ {l : List α} {r : List β}, l.mapM f = some r → r.length = l.length ∧ ∀ (j : Nat) (x : α), l[j]? = some x → ∃ y, f x = some y ∧ r[j]? = some y
  | [], r, h => by simp at h; subst h; exact ⟨rfl, fun j x hx => by simp at hx⟩
  | a :: l, r, h => by
    simp only [List.mapM_cons, Option.bind_eq_bind, Option.bind_eq_some_iff, Option.pure_def, Option.some.injEq] at h
    obtain ⟨y, hy, r', hr, rfl⟩ := h
    obtain ⟨h1, h2⟩ := mapM_get hr
    refine ⟨by simp [h1], fun j x hx => ?_⟩
    cases j with
    | zero => simp at hx; subst hx; exact ⟨y, hy, rfl⟩
    | succ j => exact h2 j x (by simpa using hx)
theorem mapM_range {β : Type} {f : Nat → Option β} {n : Nat} {r : List β} (h : (List.range n).mapM f = some r) : r.length = n ∧ ∀ j, j < n → ∃ y, f j = some y ∧ r[j]? = some y := by
  obtain ⟨h1, h2⟩ := mapM_get h
  rw [List.length_range] at h1
  exact ⟨h1, fun j hj => h2 j j (by rw [List.getElem?_range hj])⟩

/-- Cells of the start, in the second machine. -/
theorem cells_start {W : World} {b : Nat} {a : Addr} {n : Nat} {l : List Value} (h : W.cells? b a n = some l) :
    (heap0 W).loadN (.o a.block) a.off n = some (l.map alc) ∧ (n ≠ 0 → a.spot = none) := by
  unfold World.cells? at h
  split at h
  · obtain ⟨h1, h2⟩ := mapM_range h
    by_cases hn : n = 0
    · subst hn
      have : l = [] := List.eq_nil_of_length_eq_zero h1
      subst this
      exact ⟨by simp [AHeap.loadN], fun h => absurd rfl h⟩
    · obtain ⟨y0, hy0, _⟩ := h2 0 (by omega)
      have ha : a.add 0 = a := by simp [Addr.add]
      rw [ha] at hy0
      have hsp : a.spot = none ∧ ∃ c t fz, W.heap[a.block]? = some (.cells c t fz) := by
        unfold World.cell? at hy0
        split at hy0
        · rename_i c t fz hW
          split at hy0
          · cases hy0
          · rename_i hs
            exact ⟨by simpa using hs, c, t, fz, hW⟩
        · cases hy0
      obtain ⟨hs, c, t, fz, hW⟩ := hsp
      refine ⟨?_, fun _ => hs⟩
      have hget : ∀ j, j < n → c[a.off + j]? = l[j]? := by
        intro j hj
        obtain ⟨y, hy, hl⟩ := h2 j hj
        have e : (a.add j).block = a.block ∧ (a.add j).off = a.off + j ∧ (a.add j).spot = none := by
          unfold Addr.add
          split
          · rename_i e; subst e; exact ⟨rfl, rfl, hs⟩
          · exact ⟨rfl, rfl, rfl⟩
        unfold World.cell? at hy
        rw [e.1, hW] at hy
        simp only [e.2.1, e.2.2, Option.isSome_none, Bool.false_eq_true, if_false] at hy
        rw [hy, hl]
      have hle : a.off + n ≤ c.size := by
        have := hget (n - 1) (by omega)
        rw [List.getElem?_eq_getElem (by omega : n - 1 < l.length)] at this
        have := (Array.getElem?_eq_some_iff.1 this).1
        omega
      have hblk : (heap0 W).get (.o a.block) = some (.cells (c.toList.map alc) 0) := by
        simp [AHeap.get, heap0, old0, hW]
      have hl : l = (c.toList.drop a.off).take n := by
        apply List.ext_getElem?
        intro j
        rw [List.getElem?_take]
        by_cases hj : j < n
        · rw [if_pos hj, ← hget j hj, List.getElem?_drop]
          simp
        · rw [if_neg hj, List.getElem?_eq_none (by omega)]
      simp only [AHeap.loadN, if_neg hn, hblk, seg, List.length_map, Array.length_toList, if_pos hle]
      rw [hl, List.map_take, List.map_drop]
  · cases h

theorem all_app {l m : List Nat} (h : (l ++ m).all (· ≤ reachBytes) = true) : l.all (· ≤ reachBytes) = true ∧ m.all (· ≤ reachBytes) = true := by simpa using h
theorem weightsAll_get {H : Type} {P : Program} {e : TypeId} : ∀ {ds : List (DataW H)} {j : Nat} {d : DataW H}, (DataW.weightsAll P e ds).all (· ≤ reachBytes) = true → ds[j]? = some d → (d.weights P e).all (· ≤ reachBytes) = true
  | [], j, d, _, hj => by simp at hj
  | x :: ds, j, d, h, hj => by
    rw [DataW.weightsAll] at h
    obtain ⟨h1, h2⟩ := all_app h
    cases j with
    | zero => simp at hj; subst hj; exact h1
    | succ j => exact weightsAll_get h2 (by simpa using hj)
theorem weightsEach_get {H : Type} {P : Program} : ∀ {ts : List TypeId} {ds : List (DataW H)} {j : Nat} {t : TypeId} {d : DataW H}, (DataW.weightsEach P ts ds).all (· ≤ reachBytes) = true → ts[j]? = some t → ds[j]? = some d → (d.weights P t).all (· ≤ reachBytes) = true
  | [], ds, j, t, d, _, hj, _ => by simp at hj
  | t :: ts, [], j, u, d, _, _, hj => by simp at hj
  | t :: ts, x :: ds, j, u, d, h, ht, hj => by
    rw [DataW.weightsEach] at h
    obtain ⟨h1, h2⟩ := all_app h
    cases j with
    | zero => simp at hj ht; subst hj; subst ht; exact h1
    | succ j => exact weightsEach_get h2 (by simpa using ht) (by simpa using hj)

theorem hasT_of_trod {H : Type} {enc : TypeId × Value → H} {P : Program} {W : World} : ∀ (fuel : Nat) (t : TypeId) (cs : List Value) (d : DataW H) (ps : List MemPlace),
    DataW.trod enc P W 0 (fun _ => true) true fuel t cs = some (d, ps) → (d.weights P t).all (· ≤ reachBytes) = true → HasT P (heap0 W) fuel t (cs.map alc) := by
  intro fuel
  induction fuel with
  | zero => intro t cs d ps h; simp [DataW.trod] at h
  | succ f ih =>
    intro t cs d ps h hw
    unfold HasT
    unfold DataW.trod at h
    split at h
    · rename_i b hu
      simp only [hu]
      exact ⟨b, rfl⟩
    · rename_i k k' n hu
      simp only [hu]
      split at h
      · rename_i hk
        obtain ⟨rfl, hwf⟩ := hk
        exact ⟨n, rfl, hwf⟩
      · cases h
    · rename_i hu; simp only [hu]
    · rename_i b hu
      simp only [hu]
      split at h
      · cases h
        rw [DataW.weights] at hw
        refine ⟨b, rfl, ?_⟩
        simpa using hw
      · cases h
    · rename_i e hu
      simp only [hu]
      exact .inl rfl
    · rename_i e a hu
      simp only [hu]
      simp only [Option.map_eq_some_iff, Option.bind_eq_some_iff] at h
      obtain ⟨x, ⟨l, hl, hx⟩, he⟩ := h
      cases he
      obtain ⟨h1, h2⟩ := cells_start hl
      by_cases hn : P.cellsOf e = 0
      · exact .inr (.inl hn)
      · refine .inr (.inr ⟨a.block, a.off, _, ?_, h1, ih e l x.1 x.2 hx ?_⟩)
        · simp [alc, al0, h2 hn]
        · simpa [DataW.weights, hu] using hw
    · rename_i e hu
      simp only [hu]
      exact .inl rfl
    · rename_i e a len cap hu
      simp only [hu]
      simp only at h
      split at h
      · rename_i hc
        obtain ⟨_, hlc, hcm⟩ := hc
        simp only [if_true, Option.bind_eq_some_iff, Option.map_eq_some_iff] at h
        obtain ⟨elems, he, rest, hr, hd⟩ := h
        cases hd
        simp only [DataW.weights, hu] at hw
        simp only [List.all_cons, Bool.and_eq_true, decide_eq_true_eq] at hw
        obtain ⟨hw0, hw12⟩ := hw
        obtain ⟨hw1, hw2⟩ := all_app hw12
        obtain ⟨m1, m2⟩ := mapM_range he
        obtain ⟨m3, m4⟩ := mapM_range hr
        rw [List.length_map, List.length_map, m1, m3] at hw0
        by_cases hn : P.cellsOf e = 0
        · exact .inr (.inl hn)
        have key : ∀ j, j < cap → ∃ l x, W.cells? 0 (a.add (j * P.cellsOf e)) (P.cellsOf e) = some l ∧ DataW.trod enc P W 0 (fun _ => true) true f e l = some x ∧ (x.1.weights P e).all (· ≤ reachBytes) = true := by
          intro j hj
          by_cases hjl : j < len
          · obtain ⟨y, hy, hg⟩ := m2 j hjl
            simp only [Option.bind_eq_some_iff] at hy
            obtain ⟨l, h1, h2⟩ := hy
            exact ⟨l, y, h1, h2, weightsAll_get hw1 (j := j) (by simp [hg])⟩
          · obtain ⟨y, hy, hg⟩ := m4 (j - len) (by omega)
            simp only [Option.bind_eq_some_iff] at hy
            obtain ⟨l, h1, h2⟩ := hy
            rw [show len + (j - len) = j by omega] at h1
            exact ⟨l, y, h1, h2, weightsAll_get hw2 (j := j - len) (by simp [hg])⟩
        have hsp : cap = 0 ∨ a.spot = none := by
          by_cases hc : cap = 0
          · exact .inl hc
          · obtain ⟨l, x, h1, _⟩ := key 0 (by omega)
            have := (cells_start h1).2 hn
            simp [Addr.add] at this
            exact .inr this
        refine .inr (.inr ⟨a.block, a.off, len, cap, ?_, hlc, hcm, ?_, ?_⟩)
        · simp [alc, al0, hlc, hsp]
        · rw [show cap = len + (cap - len) by omega]
          exact hw0
        · intro j hj
          obtain ⟨l, x, h1, h2, h3⟩ := key j hj
          refine ⟨_, ?_, ih e l x.1 x.2 h2 h3⟩
          have := (cells_start h1).1
          have e1 : (a.add (j * P.cellsOf e)).block = a.block ∧ (a.add (j * P.cellsOf e)).off = a.off + j * P.cellsOf e := by
            unfold Addr.add
            split
            · rename_i e; rw [e]; exact ⟨rfl, rfl⟩
            · exact ⟨rfl, rfl⟩
          rw [e1.1, e1.2] at this
          exact this
      · cases h
    · rename_i fs hu
      simp only [hu]
      split at h
      · rename_i hc
        simp only [Option.map_eq_some_iff] at h
        obtain ⟨xs, hx, hd⟩ := h
        cases hd
        simp only [DataW.weights, hu] at hw
        refine ⟨by simpa using hc, fun x hxm => ?_⟩
        obtain ⟨j, hj⟩ := List.mem_iff_getElem?.1 hxm
        obtain ⟨m1, m2⟩ := mapM_get hx
        obtain ⟨y, hy, hg⟩ := m2 j x hj
        have := ih x.type _ y.1 y.2 hy (weightsEach_get hw (j := j) (by simp [hj]) (by simp [hg]))
        rwa [List.map_take, List.map_drop] at this
      · cases h
    · rename_i n e hu
      simp only [hu]
      split at h
      · rename_i hc
        simp only [Option.map_eq_some_iff] at h
        obtain ⟨xs, hx, hd⟩ := h
        cases hd
        simp only [DataW.weights, hu] at hw
        refine ⟨by simpa using hc, fun i hi => ?_⟩
        obtain ⟨m1, m2⟩ := mapM_range hx
        obtain ⟨y, hy, hg⟩ := m2 i hi
        have := ih e _ y.1 y.2 hy (weightsAll_get hw (j := i) (by simp [hg]))
        rwa [List.map_take, List.map_drop] at this
      · cases h
    all_goals first
      | (cases h; done)
      | (rename_i hu; simp only [hu])
      | skip

theorem hasV_of {H : Type} {enc : TypeId × Value → H} {P : Program} {W : World} {t : TypeId} {v : Value} {d : DataW H} {ps : List MemPlace} {r : Reach} {base : Nat}
    (h : DataW.Trod enc P W 0 (fun _ => true) true t v d ps) (hw : (d.weights P t).all (· ≤ reachBytes) = true) (hk : Value.okWide P W r base t v) : HasV P (heap0 W) t (al v) := by
  obtain ⟨fuel, hf⟩ := h
  have hT := hasT_of_trod fuel t _ d ps hf hw
  have other : (∀ cs, v ≠ .agg cs) → HasT P (heap0 W) fuel t [al v] := by
    intro hn
    have e : v.cells.toList.map alc = [al v] := by
      cases v <;> first
        | rfl
        | exact absurd rfl (hn _)
    rw [← e]
    exact hT
  unfold HasV
  unfold Value.okWide at hk
  split
  · rename_i fs hu
    simp only [hu] at hk
    obtain ⟨cs, rfl, _⟩ := hk
    exact ⟨_, fuel, rfl, hT⟩
  · rename_i n e hu
    simp only [hu] at hk
    obtain ⟨cs, rfl, _⟩ := hk
    exact ⟨_, fuel, rfl, hT⟩
  · rename_i h1 h2
    refine ⟨fuel, other ?_⟩
    rintro cs rfl
    split at hk
    · rename_i fs hu; exact h1 fs hu
    · rename_i n e hu; exact h2 n e hu
    · unfold Cell.okWide at hk
      split at hk <;> first
        | (rename_i hu _; cases hu; done)
        | (rename_i hv; cases hv; done)
        | (rename_i _ hv; cases hv; done)
        | skip
      unfold Cell.ok at hk
      split at hk <;> first
        | (exact hk)
        | (rename_i hv; cases hv; done)
        | (rename_i _ hv; cases hv; done)
        | skip

end Go.AI
