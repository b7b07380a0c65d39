/- THE DATA MACHINE, 11: the world in which a law's call begins, read as plain data; a law's row where what it reads is small. Own work. -/
import Derived.Test.YtmjhiaedgpikdaaB10
import Derived.JoinedCond
set_option linter.unusedSimpArgs false
set_option linter.unusedVariables false
namespace Go.AI
open Go.RowKit Go.ChangeShapes

inductive Ty where
  | bool
  | int (k : IntKind)
  | str
  | lst (e : Ty)
  | st (fs : List Ty)
 mutual
def Ty.size : Ty → Nat
  | .bool => 1
  | .int _ => 1
  | .str => 1
  | .lst _ => 1
  | .st fs => Ty.sizes fs
 termination_by structural x => x
def Ty.sizes : List Ty → Nat
  | [] => 0
  | t :: r => t.size + Ty.sizes r
 termination_by structural x => x
end
def tyFs (P : Program) (g : TypeId → Option Ty) : List Field → Nat → Option (List Ty)
  | [], _ => some []
  | f :: r, o => if f.offset = o then match g f.type with
      | some ty => if ty.size = P.cellsOf f.type then (tyFs P g r (o + ty.size)).map (ty :: ·) else none
      | none => none
    else none
def tyOf (P : Program) : Nat → TypeId → Option Ty
  | 0, _ => none
  | m + 1, t => match P.underlying t with
    | some .bool => some .bool
    | some (.int k) => some (.int k)
    | some .string => some .str
    | some (.slice e) => match tyOf P m e with
      | some te => if te.size = P.cellsOf e ∧ te.size ≠ 0 then some (.lst te) else none
      | none => none
    | some (.struct fs) => match tyFs P (tyOf P m) fs.toList 0 with
      | some l => if Ty.sizes l = P.cellsOf t then some (.st l) else none
      | none => none
    | some (.array n e) => match tyOf P m e with
      | some te => if n * te.size = P.cellsOf t ∧ te.size = P.cellsOf e then some (.st (List.replicate n te)) else none
      | none => none
    | _ => none
 mutual
/-- Cells that are of a type; no list is longer than N. -/
def PTy (N : Nat) : Ty → List AV → Prop
  | .bool, cs => ∃ b, cs = [.bool b]
  | .int k, cs => ∃ n, cs = [.int k n] ∧ (Lit.int k n).wf = true
  | .str, cs => ∃ s, cs = [.str s]
  | .lst e, cs => ∃ rs : List (List AV), cs = [.lst rs] ∧ rs.length ≤ N ∧ ∀ r ∈ rs, PTy N e r
  | .st fs, cs => PTys N fs cs
 termination_by structural x => x
def PTys (N : Nat) : List Ty → List AV → Prop
  | [], cs => cs = []
  | t :: ts, cs => ∃ a b, cs = a ++ b ∧ PTy N t a ∧ PTys N ts b
 termination_by structural x => x
end
 mutual
theorem PTy.facts {N : Nat} : ∀ {t : Ty} {cs : List AV}, PTy N t cs → cs.length = t.size ∧ purs cs = true ∧ cs.all AV.one = true
  | .bool, cs, h => by obtain ⟨b, rfl⟩ := h; exact ⟨rfl, rfl, rfl⟩
  | .int k, cs, h => by obtain ⟨n, rfl, _⟩ := h; exact ⟨rfl, rfl, rfl⟩
  | .str, cs, h => by obtain ⟨b, rfl⟩ := h; exact ⟨rfl, rfl, rfl⟩
  | .lst e, cs, h => by obtain ⟨rs, rfl, _⟩ := h; exact ⟨rfl, rfl, rfl⟩
  | .st fs, cs, h => PTys.facts (ts := fs) h
 termination_by structural x => x
theorem PTys.facts {N : Nat} : ∀ {ts : List Ty} {cs : List AV}, PTys N ts cs → cs.length = Ty.sizes ts ∧ purs cs = true ∧ cs.all AV.one = true
  | [], cs, h => by have h : cs = [] := h; subst h; exact ⟨rfl, rfl, rfl⟩
  | t :: ts, cs, h => by
    obtain ⟨a, b, rfl, h1, h2⟩ := h
    obtain ⟨a1, a2, a3⟩ := PTy.facts h1
    obtain ⟨b1, b2, b3⟩ := PTys.facts h2
    refine ⟨by rw [List.length_append, a1, b1]; rfl, ?_, by rw [List.all_append, a3, b3]; rfl⟩
    rw [purs_iff] at a2 b2 ⊢
    intro v hv
    rcases List.mem_append.1 hv with hv | hv
    · exact a2 v hv
    · exact b2 v hv
 termination_by structural x => x
end
/-- A value of a type. -/
def PV (N : Nat) (t : Ty) (v : AV) : Prop :=
  match t with
  | .st fs => ∃ cs, v = .agg cs ∧ PTys N fs cs
  | t => PTy N t [v]
def PVs (N : Nat) : List Ty → List AV → Prop
  | [], vs => vs = []
  | t :: ts, vs => ∃ v r, vs = v :: r ∧ PV N t v ∧ PVs N ts r

def F0 : Id → Prop := fun i => ∃ n, i = .o n
def C0 (W : World) : Ctx := ⟨[], fun _ => .o 0, heap0 W, F0⟩
structure BulkOk {H : Type} (bk : DataW H → Nat) : Prop where
  len : ∀ e s, e.length ≤ bk (.slice e s)
  elem : ∀ e s d, d ∈ e → bk d ≤ bk (.slice e s)
  part : ∀ l d, d ∈ l → bk d ≤ bk (.agg l)

theorem list_choice {α : Type} {p : Nat → α → Prop} : ∀ (n : Nat), (∀ j, j < n → ∃ x, p j x) → ∃ l : List α, l.length = n ∧ ∀ j x, l[j]? = some x → p j x
  | 0, _ => ⟨[], rfl, fun j x h => by simp at h⟩
  | n + 1, h => by
    obtain ⟨l, h1, h2⟩ := list_choice n fun j hj => h j (by omega)
    obtain ⟨x, hx⟩ := h n (by omega)
    refine ⟨l ++ [x], by simp [h1], fun j y hy => ?_⟩
    rw [List.getElem?_append] at hy
    split at hy
    · exact h2 j y hy
    · rename_i hj
      have hjn : j = n := by
        have := (List.getElem?_eq_some_iff.1 hy).1
        simp at this
        omega
      subst hjn
      rw [h1, Nat.sub_self] at hy
      simp at hy
      subst hy
      exact hx

section
variable {H : Type} {enc : TypeId × Value → H} {P : Program} {W : World} {bk : DataW H → Nat} {N : Nat}
theorem pure_of_trod (hb : BulkOk bk) : ∀ (fuel m : Nat) (t : TypeId) (ty : Ty) (cs : List Value) (d : DataW H) (ps : List MemPlace), tyOf P m t = some ty →
    DataW.trod enc P W 0 (fun _ => true) true fuel t cs = some (d, ps) → bk d ≤ N → ∃ xs, PTy N ty xs ∧ DVs (C0 W) xs (cs.map alc) := by
  intro fuel
  induction fuel with
  | zero => intro m t ty cs d ps _ h; simp [DataW.trod] at h
  | succ f ih =>
    intro m t ty cs d ps ht h hn
    cases m with
    | zero => cases ht
    | succ m =>
    unfold tyOf at ht
    unfold DataW.trod at h
    split at ht
    · rename_i hu
      cases ht
      simp only [hu] at h
      split at h <;> first
        | (rename_i hx; cases hx; done)
        | skip
      all_goals first
        | (rename_i b _; cases h; exact ⟨[.bool b], ⟨b, rfl⟩, DVs.cons rfl DVs.nil⟩)
        | (rename_i hx _; cases hx; done)
        | cases h
    · rename_i k hu
      cases ht
      simp only [hu] at h
      split at h <;> first
        | (rename_i hx; cases hx; done)
        | skip
      all_goals first
        | (rename_i e; cases e; split at h
           · rename_i hk; obtain ⟨rfl, hw⟩ := hk; cases h; exact ⟨_, ⟨_, rfl, hw⟩, DVs.cons rfl DVs.nil⟩
           · cases h)
        | (rename_i hx _; cases hx; done)
        | cases h
    · rename_i hu
      cases ht
      simp only [hu] at h
      split at h <;> first
        | (rename_i hx; cases hx; done)
        | skip
      all_goals first
        | (rename_i s _; split at h
           · cases h; exact ⟨[.str s], ⟨s, rfl⟩, DVs.cons rfl DVs.nil⟩
           · cases h)
        | (rename_i hx _; cases hx; done)
        | cases h
    · rename_i e hu
      split at ht
      case h_2 => cases ht
      rename_i te hte
      split at ht
      case isFalse => cases ht
      rename_i hsz
      cases ht
      simp only [hu] at h
      split at h <;> first
        | (rename_i hx; cases hx; done)
        | (rename_i hx _; cases hx; done)
        | (cases h; done)
        | skip
      · exact ⟨[.lst []], ⟨[], rfl, Nat.zero_le _, fun r hr => by cases hr⟩, DVs.cons ⟨rfl, .inl ⟨rfl, .inl rfl⟩⟩ DVs.nil⟩
      · rename_i e' a len cap hx
        cases hx
        try simp only at h
        split at h
        case isFalse => cases h
        rename_i hc
        obtain ⟨_, hlc, hcm⟩ := hc
        simp only [if_true, Option.bind_eq_some_iff, Option.map_eq_some_iff] at h
        obtain ⟨elems, he, rest, hr, hd⟩ := h
        cases hd
        obtain ⟨m1, m2⟩ := mapM_range he
        have hlen : len ≤ N := by
          have := hb.len (elems.map (·.1)) (rest.map (·.1))
          rw [List.length_map, m1] at this
          omega
        have hadd : ∀ j, (a.add (j * P.cellsOf e)).block = a.block ∧ (a.add (j * P.cellsOf e)).off = a.off + j * P.cellsOf e := by
          intro j
          unfold Addr.add
          split
          · rename_i e0; rw [e0]; exact ⟨rfl, rfl⟩
          · exact ⟨rfl, rfl⟩
        have key : ∀ j, j < len → ∃ x : List AV × List AV, PTy N te x.1 ∧ DVs (C0 W) x.1 x.2 ∧ (heap0 W).loadN (.o a.block) (a.off + j * te.size) te.size = some x.2 := by
          intro j hj
          obtain ⟨y, hy, hg⟩ := m2 j hj
          simp only [Option.bind_eq_some_iff] at hy
          obtain ⟨l, h1, h2⟩ := hy
          have hby : bk y.1 ≤ N := by
            have := hb.elem (elems.map (·.1)) (rest.map (·.1)) y.1 (List.mem_map.2 ⟨y, List.mem_of_getElem? hg, rfl⟩)
            omega
          obtain ⟨xs, p1, p2⟩ := ih m e te l y.1 y.2 hte h2 hby
          obtain ⟨c1, c2⟩ := cells_start h1
          rw [(hadd j).1, (hadd j).2] at c1
          refine ⟨(xs, l.map alc), p1, p2, ?_⟩
          rw [hsz.1]; exact c1
        obtain ⟨m3, m4⟩ := mapM_range hr
        have hspot : cap = 0 ∨ a.spot = none := by
          by_cases hc0 : cap = 0
          · exact .inl hc0
          · refine .inr ?_
            have h0 : ∃ l, W.cells? 0 (a.add (0 * P.cellsOf e)) (P.cellsOf e) = some l := by
              by_cases hl : 0 < len
              · obtain ⟨y, hy, _⟩ := m2 0 hl
                simp only [Option.bind_eq_some_iff] at hy
                obtain ⟨l, h1, _⟩ := hy
                exact ⟨l, h1⟩
              · obtain ⟨y, hy, _⟩ := m4 0 (by omega)
                simp only [Option.bind_eq_some_iff] at hy
                obtain ⟨l, h1, _⟩ := hy
                rw [show len + 0 = 0 by omega] at h1
                exact ⟨l, h1⟩
            obtain ⟨l, h1⟩ := h0
            have := (cells_start h1).2 (by rw [← hsz.1]; exact hsz.2)
            simpa [Addr.add] using this
        obtain ⟨ls, l1, l2⟩ := list_choice len key
        have hrl : (ls.map (·.1)).length = len := by rw [List.length_map, l1]
        have hE : Even te.size (ls.map (·.1)) := by
          intro r hr
          obtain ⟨x, hx, rfl⟩ := List.mem_map.1 hr
          obtain ⟨j, hj⟩ := List.mem_iff_getElem?.1 hx
          exact (l2 j x hj).1.facts.1
        refine ⟨[.lst (ls.map (·.1))], ⟨_, rfl, by omega, fun r hr => ?_⟩, DVs.cons ?_ DVs.nil⟩
        · obtain ⟨x, hx, rfl⟩ := List.mem_map.1 hr
          obtain ⟨j, hj⟩ := List.mem_iff_getElem?.1 hx
          exact (l2 j x hj).1
        · have hpur : purR (ls.map (·.1)) = true := by
            rw [purR_iff]
            intro r hr
            obtain ⟨x, hx, rfl⟩ := List.mem_map.1 hr
            obtain ⟨j, hj⟩ := List.mem_iff_getElem?.1 hx
            exact (l2 j x hj).1.facts.2.1
          refine ⟨hpur, ?_⟩
          by_cases h0 : len = 0
          · subst h0
            have hls : ls = [] := List.eq_nil_of_length_eq_zero l1
            subst hls
            have hal : alc (.slice (some a) 0 cap) = .slc (.o a.block) a.off 0 cap false := by
              simp [alc, al0, hspot]
            rw [hal]
            exact .inl ⟨rfl, .inr ⟨_, _, _, _, rfl⟩⟩
          · have hal : alc (.slice (some a) len cap) = .slc (.o a.block) a.off len cap false := by
              simp [alc, al0, hlc, hspot]
            rw [hal]
            have hjoin := loadN_join (H := heap0 W) (i := .o a.block) (sz := te.size) (ls.map (·.2)) a.off fun j x hx => by
              rw [List.getElem?_map, Option.map_eq_some_iff] at hx
              obtain ⟨y, hy, rfl⟩ := hx
              obtain ⟨q1, q2, q3⟩ := l2 j y hy
              exact ⟨by rw [← q2.length, q1.facts.1], q3⟩
            have hdv : ∀ (l : List (List AV × List AV)), (∀ x ∈ l, DVs (C0 W) x.1 x.2) → DVr (C0 W) (l.map (·.1)) (l.map (·.2)).flatten := by
              intro l
              induction l with
              | nil => intro _; rfl
              | cons x l ihl => intro h; exact ⟨_, _, rfl, h x List.mem_cons_self, ihl fun y hy => h y (List.mem_cons_of_mem _ hy)⟩
            refine .inr ⟨te.size, .o a.block, a.off, cap, false, (ls.map (·.2)).flatten, by rw [hrl], ⟨_, rfl⟩, by rw [hrl]; exact hlc, evenB_iff.2 hE, ?_, hdv ls fun x hx => ?_⟩
            · rw [List.length_map] at hjoin ⊢
              exact hjoin
            · obtain ⟨j, hj⟩ := List.mem_iff_getElem?.1 hx
              exact (l2 j x hj).2.1
    · rename_i fs hu
      split at ht
      case h_2 => cases ht
      rename_i l hl
      split at ht
      case isFalse => cases ht
      rename_i hsz
      cases ht
      simp only [hu] at h
      split at h
      case isFalse => cases h
      rename_i hcl
      simp only [Option.map_eq_some_iff] at h
      obtain ⟨xs, hx, hd⟩ := h
      cases hd
      have hbx : ∀ y ∈ xs, bk y.1 ≤ N := fun y hy => Nat.le_trans (hb.part _ _ (List.mem_map.2 ⟨y, hy, rfl⟩)) hn
      have key : ∀ (l : List Field) (o : Nat) (ls : List Ty) (r : List (DataW H × List MemPlace)), tyFs P (tyOf P m) l o = some ls → (l.mapM fun g => DataW.trod enc P W 0 (fun _ => true) true f g.type ((cs.drop g.offset).take (P.cellsOf g.type))) = some r → (∀ y ∈ r, bk y.1 ≤ N) → o + Ty.sizes ls = cs.length →
          ∃ xs, PTys N ls xs ∧ DVs (C0 W) xs ((cs.map alc).drop o) := by
        intro l
        induction l with
        | nil =>
          intro o ls r hls _ _ hlen
          simp only [tyFs] at hls
          cases hls
          have e : (cs.map alc).drop o = [] := List.drop_eq_nil_of_le (by rw [List.length_map]; simp [Ty.sizes] at hlen; omega)
          exact ⟨[], rfl, by rw [e]; rfl⟩
        | cons g l ihl =>
          intro o ls r hls hm hbr hlen
          unfold tyFs at hls
          split at hls
          case isFalse => cases hls
          rename_i ho
          split at hls
          case h_2 => cases hls
          rename_i ty hty
          split at hls
          case isFalse => cases hls
          rename_i hts
          rw [Option.map_eq_some_iff] at hls
          obtain ⟨ls', hls', rfl⟩ := hls
          simp only [List.mapM_cons, Option.bind_eq_bind, Option.bind_eq_some_iff, Option.pure_def, Option.some.injEq] at hm
          obtain ⟨y, hy, r', hr', rfl⟩ := hm
          have hlen' : o + (ty.size + Ty.sizes ls') = cs.length := hlen
          obtain ⟨x1, p1, p2⟩ := ih m g.type ty _ y.1 y.2 hty hy (hbr y List.mem_cons_self)
          obtain ⟨x2, p3, p4⟩ := ihl (o + ty.size) ls' r' hls' hr' (fun z hz => hbr z (List.mem_cons_of_mem _ hz)) (by omega)
          refine ⟨x1 ++ x2, ⟨x1, x2, rfl, p1, p3⟩, ?_⟩
          rw [ho, ← hts, List.map_take, List.map_drop] at p2
          have e : (cs.map alc).drop o = ((cs.map alc).drop o).take ty.size ++ (cs.map alc).drop (o + ty.size) := by
            rw [← List.drop_drop, List.take_append_drop]
          rw [e]
          exact p2.append p4
      obtain ⟨ys, p1, p2⟩ := key fs.toList 0 l xs hl hx hbx (by omega)
      exact ⟨ys, p1, by simpa using p2⟩
    · rename_i n e hu
      split at ht
      case h_2 => cases ht
      rename_i te hte
      split at ht
      case isFalse => cases ht
      rename_i hsz
      cases ht
      simp only [hu] at h
      split at h
      case isFalse => cases h
      rename_i hcl
      simp only [Option.map_eq_some_iff] at h
      obtain ⟨xs, hx, hd⟩ := h
      cases hd
      have hbx : ∀ y ∈ xs, bk y.1 ≤ N := fun y hy => Nat.le_trans (hb.part _ _ (List.mem_map.2 ⟨y, hy, rfl⟩)) hn
      obtain ⟨m1, m2⟩ := mapM_range hx
      have key : ∀ k, k ≤ n → ∃ xs, PTys N (List.replicate k te) xs ∧ DVs (C0 W) xs ((cs.map alc).drop ((n - k) * te.size)) := by
        intro k
        induction k with
        | zero =>
          intro _
          have e : (cs.map alc).drop ((n - 0) * te.size) = [] := List.drop_eq_nil_of_le (by rw [List.length_map, Nat.sub_zero]; omega)
          exact ⟨[], rfl, by rw [e]; rfl⟩
        | succ k ihk =>
          intro hk
          obtain ⟨x2, p3, p4⟩ := ihk (by omega)
          obtain ⟨y, hy, hg⟩ := m2 (n - (k + 1)) (by omega)
          obtain ⟨x1, p1, p2⟩ := ih m e te _ y.1 y.2 hte hy (hbx y (List.mem_of_getElem? hg))
          refine ⟨x1 ++ x2, ⟨x1, x2, rfl, p1, p3⟩, ?_⟩
          rw [← hsz.2, List.map_take, List.map_drop] at p2
          have e0 : (n - k) * te.size = (n - (k + 1)) * te.size + te.size := by
            rw [show n - k = (n - (k + 1)) + 1 by omega, Nat.add_mul, Nat.one_mul]
          have e : (cs.map alc).drop ((n - (k + 1)) * te.size) = ((cs.map alc).drop ((n - (k + 1)) * te.size)).take te.size ++ (cs.map alc).drop ((n - k) * te.size) := by
            rw [e0, ← List.drop_drop, List.take_append_drop]
          rw [e]
          exact p2.append p4
      obtain ⟨ys, p1, p2⟩ := key n (Nat.le_refl _)
      exact ⟨ys, p1, by simpa using p2⟩
    · cases ht

theorem pureV_of_trod (hb : BulkOk bk) {m : Nat} {t : TypeId} {ty : Ty} {v : Value} {d : DataW H} {ps : List MemPlace} {r : Reach} {base : Nat} (ht : tyOf P m t = some ty)
    (h : DataW.Trod enc P W 0 (fun _ => true) true t v d ps) (hn : bk d ≤ N) (hk : Value.okWide P W r base t v) : ∃ x, PV N ty x ∧ DV (C0 W) x (al v) := by
  obtain ⟨fuel, hf⟩ := h
  obtain ⟨xs, p1, p2⟩ := pure_of_trod hb fuel m t ty _ d ps ht hf hn
  cases m with
  | zero => cases ht
  | succ m =>
  unfold tyOf at ht
  unfold Value.okWide at hk
  have scal : (∀ cs, v ≠ .agg cs) → ∀ {ty : Ty}, PTy N ty xs → (∀ fs, ty ≠ .st fs) → ∃ x, PV N ty x ∧ DV (C0 W) x (al v) := by
    intro hna ty p1 hst
    have e : v.cells.toList.map alc = [al v] := by
      cases v <;> first
        | rfl
        | exact absurd rfl (hna _)
    rw [e] at p2
    have hl := p2.length
    obtain ⟨x, rfl⟩ := List.length_eq_one_iff.1 hl
    obtain ⟨b, hb1, hb2⟩ := DVs.one_iff.1 p2
    injection hb1 with hb1 _
    subst hb1
    refine ⟨x, ?_, hb2⟩
    cases ty with
    | st fs => exact absurd rfl (hst fs)
    | _ => exact p1
  have nag : (∀ fs, P.underlying t ≠ some (.struct fs)) → (∀ n e, P.underlying t ≠ some (.array n e)) → ∀ cs, v ≠ .agg cs := by
    rintro h1 h2 cs rfl
    split at hk
    · rename_i fs hu; exact h1 fs hu
    · rename_i n e hu; exact h2 n e hu
    · unfold Cell.okWide at hk
      split at hk <;> first
        | (rename_i hu _; cases hu; done)
        | (rename_i hv; cases hv; done)
        | (rename_i _ hv; cases hv; done)
        | skip
      unfold Cell.ok at hk
      split at hk <;> first
        | (exact hk)
        | (rename_i hv; cases hv; done)
        | (rename_i _ hv; cases hv; done)
        | skip
  split at ht
  · rename_i hu; cases ht; exact scal (nag (fun fs h => by rw [hu] at h; cases h) fun n e h => by rw [hu] at h; cases h) p1 (fun fs h => by cases h)
  · rename_i k hu; cases ht; exact scal (nag (fun fs h => by rw [hu] at h; cases h) fun n e h => by rw [hu] at h; cases h) p1 (fun fs h => by cases h)
  · rename_i hu; cases ht; exact scal (nag (fun fs h => by rw [hu] at h; cases h) fun n e h => by rw [hu] at h; cases h) p1 (fun fs h => by cases h)
  · rename_i e hu
    split at ht
    case h_2 => cases ht
    split at ht
    case isFalse => cases ht
    cases ht
    exact scal (nag (fun fs h => by rw [hu] at h; cases h) fun n e h => by rw [hu] at h; cases h) p1 (fun fs h => by cases h)
  · rename_i fs hu
    split at ht
    case h_2 => cases ht
    split at ht
    case isFalse => cases ht
    cases ht
    simp only [hu] at hk
    obtain ⟨cs, rfl, _⟩ := hk
    exact ⟨.agg xs, ⟨xs, rfl, p1⟩, _, rfl, p2⟩
  · rename_i n e hu
    split at ht
    case h_2 => cases ht
    split at ht
    case isFalse => cases ht
    cases ht
    simp only [hu] at hk
    obtain ⟨cs, rfl, _⟩ := hk
    exact ⟨.agg xs, ⟨xs, rfl, p1⟩, _, rfl, p2⟩
  · cases ht
def tysOf (P : Program) (m : Nat) : List TypeId → Option (List Ty)
  | [] => some []
  | t :: r => match tyOf P m t, tysOf P m r with
    | some a, some l => some (a :: l)
    | _, _ => none
theorem pureVs_of (hb : BulkOk bk) {m : Nat} {r : Reach} {base : Nat} : ∀ {ts : List TypeId} {tys : List Ty} {vs : List Value} {ds : List (DataW H)} {ps : List MemPlace}, tysOf P m ts = some tys →
    DataW.TrodAll enc P W 0 (fun _ => true) true ts vs ds ps → (∀ (j : Nat) t v, ts[j]? = some t → vs[j]? = some v → Value.okWide P W r base t v) → (∀ d ∈ ds, bk d ≤ N) →
    (∃ xs, PVs N tys xs ∧ DVs (C0 W) xs (vs.map al)) ∧ ds.length = ts.length
  | [], tys, vs, ds, ps, ht, h, _, _ => by
    obtain ⟨rfl, rfl, _⟩ := trodAll_nil h
    cases ht
    exact ⟨⟨[], rfl, rfl⟩, rfl⟩
  | t :: ts, tys, vs, ds, ps, ht, h, hk, hn => by
    obtain ⟨v, vs', d, ds', p, q, rfl, rfl, rfl, h1, h2⟩ := trodAll_cons h
    simp only [tysOf] at ht
    split at ht
    · rename_i a l ha hl
      cases ht
      obtain ⟨⟨xs, i1, i2⟩, i3⟩ := pureVs_of hb hl h2 (fun j t v ht hv => hk (j + 1) t v (by simpa using ht) (by simpa using hv)) (fun d hd => hn d (List.mem_cons_of_mem _ hd))
      obtain ⟨x, j1, j2⟩ := pureV_of_trod hb ha h1 (hn d List.mem_cons_self) (hk 0 t v rfl rfl)
      exact ⟨⟨x :: xs, ⟨x, xs, rfl, j1, i1⟩, DVs.cons j2 i2⟩, by simp [i3]⟩
    · cases ht
end

theorem C0_inv (W : World) (G : Nat → Option (List AV)) (hG : ∀ g, G g = none) : Inv F0 G (C0 W) := by
  refine ⟨fun k B hk => by simp [C0, hget] at hk, fun k B hk => by simp [C0, hget] at hk, fun j k A B hk => by simp [C0, hget] at hk, fun k B hk => by simp [C0, hget] at hk, fun j hj => ?_, fun g cs hg => by rw [hG] at hg; cases hg⟩
  rcases hj with ⟨n, hn⟩ | ⟨n, hn⟩ <;> cases hn
/-- What the data machine answers of plain data the second machine answers of what stands for it. -/
theorem run_true {A : Env} {E : DEnv} (hD : ∀ f fn, E.ft f = some fn → A.ft f = some fn ∧ A.ext f = none ∧ okF fn = true) (hpr : ∀ f p, E.prim f = some p → ∃ z, A.ft f = some (primF p z) ∧ A.ext f = none) (hG : ∀ g, E.glob g = none) {W : World} {f : FuncId} {xs : List AV} {as : List AV}
    (hx : DVs (C0 W) xs as) (h : pd E f xs = some (.bool true)) : ∃ n H', callN A n f as (heap0 W) = some (.bool true, H') := by
  unfold pd at h
  split at h
  case h_2 => cases h
  rename_i v L1 hc
  have hv : v = .bool true := by
    cases v with
    | bool b => cases h; rfl
    | agg cs =>
      have h : (frzs L1 0 cs).map AV.agg = some (.bool true) := h
      rw [Option.map_eq_some_iff] at h
      obtain ⟨_, _, h⟩ := h
      cases h
    | tuple cs =>
      have h : (frzs L1 0 cs).map AV.tuple = some (.bool true) := h
      rw [Option.map_eq_some_iff] at h
      obtain ⟨_, _, h⟩ := h
      cases h
    | iface t x =>
      have h : (frz L1 0 x).map (AV.iface t) = some (.bool true) := h
      rw [Option.map_eq_some_iff] at h
      obtain ⟨_, _, h⟩ := h
      cases h
    | slc i off len cap t =>
      cases i with
      | n k =>
        have h : (if 0 ≤ k then match rowsV L1 (.slc (.n k) off len cap t) with
          | some rs => if purR rs then some (AV.lst rs) else none
          | none => none
        else none) = some (.bool true) := h
        split at h
        · split at h
          · split at h <;> cases h
          · cases h
        · cases h
      | o g => cases h
    | func f a b =>
      have h : (if pur (.func f a b) then some (AV.func f a b) else none) = some (.bool true) := h
      split at h <;> cases h
    | _ => cases h
  subst hv
  obtain ⟨n, hn⟩ := cd_ex hc
  obtain ⟨v', m', H', F', e1, _, e3⟩ := (callD_ok hD hpr n _ _ _ _ _ _ hn).1 F0 (C0 W) as rfl (C0_inv W E.glob hG) hx
  have e3 : v' = .bool true := e3
  subst e3
  exact ⟨n, H', e1⟩

theorem lifted_upto {C : Checked} {A : Env} {E : DEnv} (hft : ∀ f fn, A.ft f = some fn → trF C.prog f = some fn) (hext : ExtOk C.prog A) (hD : ∀ f fn, E.ft f = some fn → A.ft f = some fn ∧ A.ext f = none ∧ okF fn = true) (hpr : ∀ f p, E.prim f = some p → ∃ z, A.ft f = some (primF p z) ∧ A.ext f = none) (hG : ∀ g, E.glob g = none)
    (hm : C.prog.follows .mixedOrders = true) {os : Os} (started : os.Started) {f : FuncId} {fn : Func} {s : OpenSpec} {k : (H : Type) → List (DataW H) → Bool} (hk : s.cond = some k) {F : Stop.Interp} {H : Type} {enc : TypeId × Value → H}
    (own : ownKnob C.prog.godebug = none) (hl : laidOutB C.prog = true) (noInit : C.prog.inits.idxOf? f = none) (hfn : C.prog.funcs[f]? = some fn)
    (witness : ∃ (w : World) (tape : Tape) (i : Input), w.os = os ∧ (w.forCall tape i).Shaped C.prog ∧ i.vars = [] ∧ Input.okWide C.prog (w.forCall tape i) .any w.heap.size f i ∧
      s.pre6 enc C.prog fn [] false (w.forCall tape i).memory i.args ∧ Assume.holds {} C.prog (lone (Frame.enter C.prog f i.args .normal) [] (w.forCall tape i)))
    {tb : TypeId} (hres : fn.resultTypes = #[tb]) (htb : C.prog.underlying tb = some .bool) (hvars : s.vars = []) (hvars2 : (s.at F).vars = [])
    (hs : ∀ ds : List (DataW H), ds.length = fn.params.size → (s.at F).fn H ds = { results := [.lit (.bool true)], args := ds })
    (hread : ∀ t ∈ fn.params.toList, C.prog.readableRec t = true ∧ t < C.prog.types.size)
    {bk : DataW H → Nat} (hb : BulkOk bk) {N : Nat} (hkb : ∀ ds, k H ds = true → ∀ d ∈ ds, bk d ≤ N) {m : Nat} {tys : List Ty} (hty : tysOf C.prog m fn.params.toList = some tys)
    (main : ∀ xs : List AV, PVs N tys xs → pd E f xs = some (.bool true)) :
    ReturnsInHanded {} C os f .any (s.pre6 enc C.prog fn [] false) ((s.at F).post enc C.prog fn false true false false) := by
  refine returnsInHanded_of_cond hk own started noInit hfn witness ?_
  intro W base args ds gs before hval hW hcnd hkk _
  have hW' := hW
  obtain ⟨p, q, hA, hV, rfl, hfz, hnd⟩ := hW
  rw [hvars] at hV
  obtain ⟨rfl, rfl⟩ := trodVars_none hV
  rw [List.append_nil] at hkk
  obtain ⟨⟨xs, i1, i3⟩, i2⟩ := pureVs_of hb hty hA (fun j t v ht hv => hval j t v (by simpa using ht) (by simpa using hv)) (hkb ds hkk)
  obtain ⟨n, H', hrun⟩ := run_true hD hpr hG i3 (main xs i1)
  refine (calls_true hft hext hm hrun).mono fun e W' ⟨he, bel⟩ => ?_
  subst he
  have hsf := hs ds (by simpa using i2)
  rw [hvars, ← hvars2] at hW'
  refine ⟨_, rfl, ds, [], p ++ [], [], p, [], hW', ?_, ?_, ?_, bel.frame _, fun h => by cases h⟩
  · rw [List.append_nil, hsf, hres]
    exact trodAll_mk1 (shut_bool htb _)
  · rw [List.append_nil, hsf]
    exact trodAll_stays hl bel hread hA
  · rw [List.append_nil, hsf, hvars2]
    rfl
end Go.AI
