/- THE SECOND MACHINE, 8: operations that look at no memory, and those that read or write cells: both sides come to the same. Own work. -/
import Derived.Test.YtmjhiaedgpikdaaA7
set_option linter.unusedSimpArgs false
set_option linter.unusedVariables false
namespace Go.AI
section
variable {P : Program} {φ : Emb} {w0 w : World} {T : Trie AV} {H : AHeap} {a : Act}

def neqOp (neg : Bool) : BinOp := if neg then .neq else .eql
theorem run_eqOp {ty : TypeId} {x y : Value} {r : Bool} {ox oy : Operand} (he : ∀ d, (Op.equalIn (d + 1) ty x y).run P w = .ok r w)
    (hg : ∀ neg, (eqGuard (neqOp neg) ty ox oy x y).run P w = .ok () w)
    (h1 : binOp .eql ty x y = (do pure (.bool (← Op.equal ty x y)))) (h2 : binOp .neq ty x y = (do pure (.bool (!(← Op.equal ty x y))))) (neg : Bool) :
    (do eqGuard (neqOp neg) ty ox oy x y; binOp (neqOp neg) ty x y : Sem Value).run P w = .ok (.bool (if neg then !r else r)) w := by
  have he' : (Op.equal ty x y).run P w = .ok r w := he 9999
  cases neg
  · have := hg false
    simp only [neqOp, Bool.false_eq_true, if_false] at this ⊢
    simp only [Sem.run_bind, this, Result.andThen_ok, h1, he', Sem.run_pure]
  · have := hg true
    simp only [neqOp, if_true] at this ⊢
    simp only [Sem.run_bind, this, Result.andThen_ok, h2, he', Sem.run_pure]
def cmpFits (P : Program) (ty : TypeId) : CmpT → TypeDesc → Prop
  | .bool, .bool => True
  | .str, .string => True
  | .ptr, .pointer _ => True
  | .slc, .slice _ => True
  | .map, .map _ _ => True
  | .func, .func _ _ _ => True
  | .iface, .interface _ => True
  | .flat ks, .struct _ => P.eqGuardType P.depth ty = false ∧ flatK P 100 ty = some ks
  | _, _ => False
theorem run_cmpA {t : CmpT} {x y : AV} {r : Bool} (h : cmpOp t x y = some r) {ty : TypeId} {d : TypeDesc} (hu : P.underlying ty = some d)
    (hm : cmpFits P ty t d)
    {x' y' : Value} (hx : VR φ x x') (hy : VR φ y y') (neg : Bool) (ox oy : Operand) (hc : t = .iface → isConstX ox = true ∨ isConstX oy = true) :
    (do eqGuard (neqOp neg) ty ox oy x' y'; binOp (neqOp neg) ty x' y' : Sem Value).run P w = .ok (.bool (if neg then !r else r)) w := by
  unfold cmpOp at h
  split at h
  · -- bool
    cases h
    have hx : x' = _ := hx
    have hy : y' = _ := hy
    subst hx; subst hy
    cases d <;> simp only [cmpFits] at hm
    exact run_eqOp (fun d => run_equalIn_bool w d ty _ _ hu) (fun neg => by cases neg <;> simp [neqOp, eqGuard]) rfl rfl neg
  · cases h
    have hx : x' = _ := hx
    have hy : y' = _ := hy
    subst hx; subst hy
    cases neg <;> simp [neqOp, eqGuard, binOp, Op.stringOp]
  all_goals try (
    cases h
    cases d <;> simp only [cmpFits] at hm)
  · have hx : x' = _ := hx
    have hy : y' = _ := hy
    subst hx; subst hy
    exact run_eqOp (fun d => by simp [Op.equalIn, run_underlying hu]) (fun neg => by cases neg <;> simp [neqOp, eqGuard]) rfl rfl neg
  · have hx : x' = _ := hx
    obtain ⟨l, _, hy⟩ := hy
    subst hx; subst hy
    exact run_eqOp (fun d => by simp [Op.equalIn, run_underlying hu]) (fun neg => by cases neg <;> simp [neqOp, eqGuard]) rfl rfl neg
  · have hy : y' = _ := hy
    obtain ⟨l, _, hx⟩ := hx
    subst hx; subst hy
    exact run_eqOp (fun d => by simp [Op.equalIn, run_underlying hu]) (fun neg => by cases neg <;> simp [neqOp, eqGuard]) rfl rfl neg
  · have hx : x' = _ := hx
    have hy : y' = _ := hy
    subst hx; subst hy
    exact run_eqOp (fun d => by simp [Op.equalIn, run_underlying hu]) (fun neg => by cases neg <;> simp [neqOp, eqGuard]) rfl rfl neg
  · have hx : x' = _ := hx
    obtain ⟨_, l, _, b, c, hy, _⟩ := hy
    subst hx; subst hy
    exact run_eqOp (fun d => by simp [Op.equalIn, run_underlying hu]) (fun neg => by cases neg <;> simp [neqOp, eqGuard]) rfl rfl neg
  · have hy : y' = _ := hy
    obtain ⟨_, l, _, b, c, hx, _⟩ := hx
    subst hx; subst hy
    exact run_eqOp (fun d => by simp [Op.equalIn, run_underlying hu]) (fun neg => by cases neg <;> simp [neqOp, eqGuard]) rfl rfl neg
  · have hx : x' = _ := hx
    have hy : y' = _ := hy
    subst hx; subst hy
    exact run_eqOp (fun d => by simp [Op.equalIn, run_underlying hu]) (fun neg => by cases neg <;> simp [neqOp, eqGuard]) rfl rfl neg
  · have hx : x' = _ := hx
    obtain ⟨l, _, hy⟩ := hy
    subst hx; subst hy
    exact run_eqOp (fun d => by simp [Op.equalIn, run_underlying hu]) (fun neg => by cases neg <;> simp [neqOp, eqGuard]) rfl rfl neg
  · have hy : y' = _ := hy
    obtain ⟨l, _, hx⟩ := hx
    subst hx; subst hy
    exact run_eqOp (fun d => by simp [Op.equalIn, run_underlying hu]) (fun neg => by cases neg <;> simp [neqOp, eqGuard]) rfl rfl neg
  · have hx : x' = _ := hx
    have hy : y' = _ := hy
    subst hx; subst hy
    exact run_eqOp (fun d => by simp [Op.equalIn, run_underlying hu]) (fun neg => by cases neg <;> simp [neqOp, eqGuard]) rfl rfl neg
  · have hx : x' = _ := hx
    obtain ⟨b, c, hy, _⟩ := hy
    subst hx; subst hy
    exact run_eqOp (fun d => by simp [Op.equalIn, run_underlying hu]) (fun neg => by cases neg <;> simp [neqOp, eqGuard]) rfl rfl neg
  · have hy : y' = _ := hy
    obtain ⟨b, c, hx, _⟩ := hx
    subst hx; subst hy
    exact run_eqOp (fun d => by simp [Op.equalIn, run_underlying hu]) (fun neg => by cases neg <;> simp [neqOp, eqGuard]) rfl rfl neg
  · have hx : x' = _ := hx
    have hy : y' = _ := hy
    subst hx; subst hy
    have hc := hc rfl
    exact run_eqOp (fun d => by simp [Op.equalIn, run_underlying hu]) (fun neg => by cases ox <;> cases oy <;> simp [isConstX] at hc <;> cases neg <;> simp [neqOp, eqGuard]) rfl rfl neg
  · have hx : x' = _ := hx
    obtain ⟨b, hy, _⟩ := hy
    subst hx; subst hy
    exact run_eqOp (fun d => by simp [Op.equalIn, run_underlying hu]) (fun neg => by cases neg <;> simp [neqOp, eqGuard]) rfl rfl neg
  · have hy : y' = _ := hy
    obtain ⟨b, hx, _⟩ := hx
    subst hx; subst hy
    exact run_eqOp (fun d => by simp [Op.equalIn, run_underlying hu]) (fun neg => by cases neg <;> simp [neqOp, eqGuard]) rfl rfl neg
  · obtain ⟨cs, hx, hcs⟩ := hx
    obtain ⟨ds, hy, hds⟩ := hy
    subst hx; subst hy
    cases d <;> simp only [cmpFits] at hm
    obtain ⟨hg, hf⟩ := hm
    have he := run_eq_flat (P := P) 9900 100 ty _ hf φ _ _ _ _ r w hcs hds h
    simp only [mkV, hu, Array.toArray_toList] at he
    cases neg
    · simp only [neqOp, Bool.false_eq_true, if_false, Sem.run_bind, run_eqGuard_agg w _ ty ox oy cs ds hg, Result.andThen_ok, run_eql_struct, he]
    · simp only [neqOp, if_true, Sem.run_bind, run_eqGuard_agg w _ ty ox oy cs ds hg, Result.andThen_ok, run_neq_struct, he]
  · cases h
end
end Go.AI
