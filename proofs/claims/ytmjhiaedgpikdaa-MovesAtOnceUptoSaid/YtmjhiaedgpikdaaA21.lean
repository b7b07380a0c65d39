/- THE SECOND MACHINE, 21: a law's row, by a run of the second machine that tells true. Own work. -/
import Derived.Test.YtmjhiaedgpikdaaA20
import Derived.Carry
import Derived.OpenShut
set_option linter.unusedSimpArgs false
set_option linter.unusedVariables false
namespace Go.AI
open Go.RowKit Go.ChangeShapes

theorem calls_true {P : Program} {E : Env} (hft : ∀ f fn, E.ft f = some fn → trF P f = some fn) (hext : ExtOk P E) (hm : P.follows .mixedOrders = true)
    {f : FuncId} {W : World} {args : Array Value} {n : Nat} {b : Bool} {H' : AHeap} (h : callN E n f (args.toList.map al) (heap0 W) = some (.bool b, H')) :
    Calls P f args W fun e W' => e = .returned (.bool b) ∧ Below W.heap.size W W' := by
  obtain ⟨_, _, hc⟩ := callN_ok E hft hext hm n f _ _ _ _ h
  refine Calls.mono (hc (emb0 W) W W args (Rel.start W) (als_VR W args.toList)) ?_
  rintro e w' ⟨v', φ', rfl, _, hv, hr⟩
  have hv : v' = .bool b := hv
  subst hv
  exact ⟨rfl, hr.below⟩

theorem hasVs_of {H : Type} {enc : TypeId × Value → H} {P : Program} {W : World} {r : Reach} {base : Nat} : ∀ {ts : List TypeId} {vs : List Value} {ds : List (DataW H)} {ps : List MemPlace},
    DataW.TrodAll enc P W 0 (fun _ => true) true ts vs ds ps → (∀ (j : Nat) t v, ts[j]? = some t → vs[j]? = some v → Value.okWide P W r base t v) → (DataW.weightsEach P ts ds).all (· ≤ reachBytes) = true →
    HasVs P (heap0 W) ts (vs.map al) ∧ ds.length = ts.length
  | [], vs, ds, ps, h, _, _ => by
    obtain ⟨rfl, rfl, _⟩ := trodAll_nil h
    exact ⟨rfl, rfl⟩
  | t :: ts, vs, ds, ps, h, hk, hw => by
    obtain ⟨v, vs', d, ds', p, q, rfl, rfl, rfl, h1, h2⟩ := trodAll_cons h
    rw [DataW.weightsEach] at hw
    obtain ⟨w1, w2⟩ := all_app hw
    obtain ⟨i1, i2⟩ := hasVs_of h2 (fun j t v ht hv => hk (j + 1) t v (by simpa using ht) (by simpa using hv)) w2
    exact ⟨⟨_, _, rfl, hasV_of h1 w1 (hk 0 t v rfl rfl), i1⟩, by simp [i2]⟩

theorem trodAll_stays {H : Type} {enc : TypeId × Value → H} {P : Program} {W W' : World} (hl : laidOutB P = true) (hb : Below W.heap.size W W') : ∀ {ts : List TypeId} {vs : List Value} {ds : List (DataW H)} {ps : List MemPlace},
    (∀ t ∈ ts, P.readableRec t = true ∧ t < P.types.size) → DataW.TrodAll enc P W 0 (fun _ => true) true ts vs ds ps → DataW.TrodAll enc P W' 0 (fun b => decide (b < W.heap.size)) true ts vs ds ps
  | [], vs, ds, ps, _, h => by
    obtain ⟨rfl, rfl, rfl⟩ := trodAll_nil h
    rfl
  | t :: ts, vs, ds, ps, hr, h => by
    obtain ⟨v, vs', d, ds', p, q, rfl, rfl, rfl, h1, h2⟩ := trodAll_cons h
    obtain ⟨r1, r2⟩ := hr t List.mem_cons_self
    have lt : ∀ x ∈ p, x.block < W.heap.size := by
      obtain ⟨m, hm⟩ := h1
      exact DataW.trod_lt m _ _ _ hm
    exact trodAll_cons_mk (Below.trod hl r1 r2 h1 hb lt) (trodAll_stays hl hb (fun t ht => hr t (List.mem_cons_of_mem _ ht)) h2)

theorem lifted_of {C : Checked} {E : Env} (hft : ∀ f fn, E.ft f = some fn → trF C.prog f = some fn) (hext : ExtOk C.prog E) (hm : C.prog.follows .mixedOrders = true)
    {os : Os} (started : os.Started) {f : FuncId} {fn : Func} {s : ChangeSpec} {H : Type} {enc : TypeId × Value → H} (own : ownKnob C.prog.godebug = none) (hl : laidOutB C.prog = true) (noInit : C.prog.inits.idxOf? f = none) (hfn : C.prog.funcs[f]? = some fn)
    (witness : ∃ (w : World) (tape : Tape) (i : Input), w.os = os ∧ (w.forCall tape i).Shaped C.prog ∧ i.vars = [] ∧ Input.okWide C.prog (w.forCall tape i) .any w.heap.size f i ∧
      s.pre6 enc C.prog fn [] false (w.forCall tape i).memory i.args ∧ Assume.holds {} C.prog (lone (Frame.enter C.prog f i.args .normal) [] (w.forCall tape i)))
    {tb : TypeId} (hres : fn.resultTypes = #[tb]) (htb : C.prog.underlying tb = some .bool) (hvars : s.vars = [])
    (hs : ∀ ds : List (DataW H), ds.length = fn.params.size → s.fn H ds = { results := [.lit (.bool true)], args := ds })
    (hread : ∀ t ∈ fn.params.toList, C.prog.readableRec t = true ∧ t < C.prog.types.size)
    (main : ∀ (G : AHeap) (vs : List AV), G.next = 0 → HasVs C.prog G fn.params.toList vs → ∃ n H', callN E n f vs G = some (.bool true, H')) :
    ReturnsInHanded {} C os f .any (s.pre6 enc C.prog fn [] false) (s.post enc C.prog fn false true false false) := by
  refine returnsInHanded_of_change_sized own started noInit hfn witness ?_
  intro W base args ds gs before hval hW hcnd hsz _
  have hW' := hW
  obtain ⟨p, q, hA, hV, rfl, hfz, hnd⟩ := hW
  rw [hvars] at hV
  obtain ⟨rfl, rfl⟩ := trodVars_none hV
  have hvt : s.plain.varTypes C.prog = [] := by
    unfold DataSpec.varTypes
    simp [ChangeSpec.plain, hvars]
  rw [hvt, List.append_nil, List.append_nil] at hsz
  obtain ⟨i1, i2⟩ := hasVs_of hA (fun j t v ht hv => hval j t v (by simpa using ht) (by simpa using hv)) hsz
  obtain ⟨n, H', hrun⟩ := main _ _ rfl i1
  refine (calls_true hft hext hm hrun).mono fun e W' ⟨he, bel⟩ => ?_
  subst he
  have hsf := hs ds (by simpa using i2)
  refine ⟨_, rfl, ds, [], p ++ [], [], p, [], hW', ?_, ?_, ?_, bel.frame _, fun h => by cases h⟩
  · rw [List.append_nil, hsf, hres]
    exact trodAll_mk1 (shut_bool htb _)
  · rw [List.append_nil, hsf]
    exact trodAll_stays hl bel hread hA
  · rw [List.append_nil, hsf, hvars]
    rfl
end Go.AI
