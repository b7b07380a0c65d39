/- THE DATA MACHINE, 6: the other operations, on both machines. Own work. -/
import Derived.Test.YtmjhiaedgpikdaaB5
set_option linter.unusedSimpArgs false
set_option linter.unusedVariables false
namespace Go.AI
section
variable {C : Ctx} {K : Id → Prop} {G : Nat → Option (List AV)}

theorem idxD_ok (hI : Inv K G C) {esz : Nat} {s i s' i' : AV} (hs : DV C s s') (hi : DV C i i') {v : AV} (h : idxD esz C.L s i = some v) : ∃ v', idxA esz s' i' = some v' ∧ DV C v v' := by
  unfold idxD at h
  split at h
  case h_2 => cases h
  rename_i kk n
  cases hi
  split at h
  case isFalse => cases h
  rename_i hn
  split at h
  · rename_i rs
    split at h
    · rename_i r hr
      split at h
      · rename_i hl
        cases h
        have hlt := (List.getElem?_eq_some_iff.1 hr).1
        obtain ⟨hp, ⟨rfl, _⟩ | ⟨esz0, i, off, cap, t, cs', rfl, h2, h3, h4, h5, h6⟩⟩ := hs
        · simp at hr
        · have hev := evenB_iff.1 h4
          have he : esz0 = esz := by have := hev.get hr; omega
          subst he
          refine ⟨.ptr i (off + n.toNat * esz0), ?_, ?_⟩
          · simp only [idxA]
            rw [if_pos (by omega)]
          · have hpart := loadN_part (p := n.toNat * esz0) (m := esz0) h5 (by
              have : (n.toNat + 1) * esz0 ≤ rs.length * esz0 := Nat.mul_le_mul_right _ hlt
              rw [Nat.add_mul, Nat.one_mul] at this
              omega)
            obtain ⟨x, hx, hd⟩ := h6.row hev hr (p := 0) (n := esz0) (by omega)
            rw [Nat.add_zero] at hx
            obtain ⟨_, hx⟩ := seg_some hx
            rw [← hx] at hpart
            rw [List.drop_zero, List.take_of_length_le (by omega)] at hd
            refine ⟨i, off + n.toNat * esz0, x, rfl, h2, purR_iff.1 hp r (List.mem_of_getElem? hr), ?_, hd⟩
            rw [hl]; exact hpart
      · cases h
    · cases h
  · rename_i k off len cap t
    split at h
    · rename_i e rs g hB
      split at h
      · rename_i hc
        obtain ⟨hv, rfl, hnl⟩ := hc
        cases h
        obtain ⟨v1, v2, v3⟩ := validB_iff hv
        obtain ⟨hk, _, hcc⟩ := hs
        have h3 := (hcc e rs g hB).2 hv
        have hne : rs ≠ [] := by intro e0; rw [e0] at v1; simp at v1; omega
        rw [if_neg (fun hh => hne hh.2)] at h3
        subst h3
        refine ⟨.ptr (C.m k) (off * e + n.toNat * e), ?_, hk, _, _, rfl, ?_⟩
        · simp only [idxA]
          rw [if_pos (by omega)]
        · intro e' rs' g' h'
          rw [hB] at h'
          cases h'
          exact ⟨Nat.le_refl _, fun _ => ⟨rfl, by rw [Nat.add_zero, Nat.add_mul]⟩⟩
      · cases h
    · cases h
  · cases h

theorem bound_ok {x x' : AV} (hx : DV C x x') {y m : Nat} (h : bound x y = some m) : bound x' y = some m := by
  cases x with
  | int k n => cases hx; exact h
  | _ => cases h
/-- One bound, of both machines. -/
def BD (C : Ctx) : Option AV → Option AV → Prop
  | none, none => True
  | some a, some b => DV C a b
  | _, _ => False
theorem bnd_ok {x x' : Option AV} (hx : BD C x x') {y d m : Nat} (h : bndV x y d = some m) : bnd .leaf (x'.map X.c) y d = some m := by
  cases x with
  | none => cases x' with
    | none => exact h
    | some b => exact hx.elim
  | some a => cases x' with
    | none => exact hx.elim
    | some b => exact bound_ok hx h
theorem bnds_ok {lo hi mx lo' hi' mx' : Option AV} (h1 : BD C lo lo') (h2 : BD C hi hi') (h3 : BD C mx mx') {len cap : Nat} {b : Nat × Nat × Nat} (h : bndsV lo hi mx len cap = some b) :
    bnds .leaf (lo'.map X.c) (hi'.map X.c) (mx'.map X.c) len cap = some b ∧ b.1 ≤ b.2.1 ∧ (b.2.1 ≤ b.2.2 ∨ b.2.1 = len) ∧ b.2.2 ≤ cap ∧ (mx = none → b.2.2 = cap) := by
  have le : ∀ {x : Option AV} {y d m : Nat}, bndV x y d = some m → (x.isSome = true → m ≤ y) ∧ (x = none → m = d) := by
    intro x y d m hm
    cases x with
    | none => cases hm; exact ⟨fun h => (nomatch h), fun _ => rfl⟩
    | some a =>
      refine ⟨fun _ => ?_, fun h => (nomatch h)⟩
      simp only [bndV] at hm
      unfold bound at hm
      split at hm
      · split at hm
        · rename_i hb; cases hm; omega
        · cases hm
      · cases hm
  unfold bndsV at h
  split at h
  · cases h
  · rename_i m hm
    split at h
    · cases h
    · rename_i hh hhi
      split at h
      · cases h
      · rename_i l hl
        cases h
        unfold bnds
        rw [bnd_ok h3 hm]
        simp only
        rw [bnd_ok h2 hhi]
        simp only
        rw [bnd_ok h1 hl]
        refine ⟨rfl, ?_, ?_, ?_, fun e => (le hm).2 e⟩
        · cases lo with
          | none => have := (le hl).2 rfl; omega
          | some a => exact (le hl).1 rfl
        · cases hi with
          | none => exact .inr ((le hhi).2 rfl)
          | some a => exact .inl ((le hhi).1 rfl)
        · cases mx with
          | none => have := (le hm).2 rfl; omega
          | some a => exact (le hm).1 rfl

theorem cutD_ok (hI : Inv K G C) {esz : Nat} {s s' : AV} (hs : DV C s s') {lo hi mx lo' hi' mx' : Option AV} (h1 : BD C lo lo') (h2 : BD C hi hi') (h3 : BD C mx mx') {v : AV} (h : cutD esz C.L s lo hi mx = some v) :
    ∃ v', cutF esz s' lo' hi' mx' = some v' ∧ DV C v v' := by
  have hmx : (mx'.map X.c).isNone = mx.isNone := by
    cases mx <;> cases mx' <;> first | rfl | exact h3.elim
  unfold cutF sliceOp
  cases s <;> first
    | (cases h; done)
    | skip
  · -- nil
    simp only [cutD, Option.map_eq_some_iff] at h
    obtain ⟨b, hb, rfl⟩ := h
    obtain ⟨e1, e2, e3, e4, e5⟩ := bnds_ok h1 h2 h3 hb
    rcases hs with rfl | ⟨i, off, rfl⟩
    · simp only [e1, Option.map_some]
      exact ⟨_, rfl, .inl rfl⟩
    · simp only [e1, Option.map_some, Bool.false_and]
      refine ⟨_, rfl, .inr ⟨i, off + b.1 * esz, ?_⟩⟩
      have : b.2.1 - b.1 = 0 := by omega
      have : b.2.2 - b.1 = 0 := by omega
      congr 1 <;> assumption
  · rename_i i off len cap tail
    cases i with
    | o g => exact hs.elim
    | n k =>
      simp only [cutD] at h
      split at h
      · rename_i e rs g hB
        split at h
        · rename_i hc
          obtain ⟨hv, he⟩ := hc
          obtain ⟨v1, v2, v3⟩ := validB_iff hv
          obtain ⟨hk, hsl, hcc⟩ := hs
          have h4 := (hcc e rs g hB).2 hv
          split at h
          · rename_i l hh m hb
            obtain ⟨e1, e2, e3, e4, e5⟩ := bnds_ok h1 h2 h3 hb
            simp only at e2 e3 e4 e5
            split at h4
            · rename_i hn
              obtain ⟨hg, rfl⟩ := hn
              simp at v1
              obtain ⟨rfl, rfl⟩ : off = 0 ∧ cap = 0 := by omega
              have hl0 : len = 0 := by omega
              subst hl0
              have key : ∀ v', nilish v' → isSlc v' → DV C v v' := by
                intro v' hv' hs'
                split at h
                · cases h; exact hv'
                · cases h
                  refine ⟨hk, hs', fun e' rs' g' h' => ?_⟩
                  rw [hB] at h'
                  cases h'
                  exact ⟨by simp; omega, fun _ => by rw [if_pos ⟨hg, rfl⟩]; exact hv'⟩
              rcases h4 with rfl | ⟨i, o, rfl⟩
              · simp only [e1, Option.map_some]
                exact ⟨_, rfl, key _ (.inl rfl) trivial⟩
              · simp only [e1, Option.map_some, Bool.false_and]
                have h1 : hh - l = 0 := by omega
                have h2 : m - l = 0 := by omega
                rw [h1, h2]
                exact ⟨_, rfl, key _ (.inr ⟨_, _, rfl⟩) trivial⟩
            · rename_i hn
              subst h4
              have hee : rs ≠ [] → e = esz := fun hne => he.resolve_left hne
              simp only [e1, Option.map_some]
              refine ⟨_, rfl, ?_⟩
              rw [hmx]
              split at h
              · rename_i hz
                cases h
                simp only [Bool.and_eq_true] at hz
                have hml := Nat.eq_of_beq_eq_true hz.2.1
                have hhl := Nat.eq_of_beq_eq_true hz.2.2
                have hnone : mx.isNone = false := by
                  cases mx with
                  | none => cases hz.1
                  | some _ => rfl
                rw [hnone, Bool.and_false]
                refine .inr ⟨C.m k, off * e + l * esz, ?_⟩
                rw [hhl, hml, Nat.sub_self]
              · rename_i hz
                cases h
                refine ⟨hk, trivial, fun e' rs' g' h' => ?_⟩
                rw [hB] at h'
                cases h'
                refine ⟨by omega, fun hv2 => ?_⟩
                rw [if_neg hn]
                obtain ⟨w1, w2, w3⟩ := validB_iff hv2
                by_cases hrs : rs = []
                · subst hrs
                  simp at v1
                  have : l = 0 := by omega
                  subst this
                  rw [Nat.add_zero, Nat.zero_mul, Nat.add_zero]
                · rw [hee hrs, Nat.add_mul]
          · cases h
        · cases h
      · cases h
  · rename_i rs
    simp only [cutD] at h
    split at h
    case isFalse => cases h
    rename_i hev
    simp only [Bool.and_eq_true] at hev
    obtain ⟨hev, hmn⟩ := hev
    simp only [Option.map_eq_some_iff] at h
    obtain ⟨b, hb, rfl⟩ := h
    obtain ⟨l, hh, m⟩ := b
    cases mx with
    | some _ => cases hmn
    | none =>
    cases mx' with
    | some _ => exact h3.elim
    | none =>
    obtain ⟨e1, e2, e3, e4, e5⟩ := bnds_ok h1 h2 h3 hb
    have hm := e5 rfl
    simp only at e2 e3 e4 hm
    have hhr : hh ≤ rs.length := by omega
    have key : ∀ cap, rs.length ≤ cap → bnds .leaf (lo'.map X.c) (hi'.map X.c) (Option.map X.c none) rs.length cap = some (l, hh, cap) := by
      intro cap hcap
      have hb' : bndsV lo hi none rs.length cap = some (l, hh, cap) := by
        have e0 : bndV none rs.length rs.length = some rs.length := rfl
        have e9 : bndV none cap cap = some cap := rfl
        unfold bndsV at hb ⊢
        rw [e0] at hb
        rw [e9]
        simp only at hb ⊢
        split at hb
        · cases hb
        · rename_i x hx
          split at hb
          · cases hb
          · rename_i y hy
            cases hb
            have hx' : bndV hi cap rs.length = some hh := by
              cases hi with
              | none => exact hx
              | some a =>
                simp only [bndV] at hx ⊢
                unfold bound at hx ⊢
                split at hx
                · split at hx
                  · rename_i hc
                    rw [if_pos ⟨hc.1, by omega⟩]
                    exact hx
                  · cases hx
                · cases hx
            simp only [hx', hy]
      exact (bnds_ok h1 h2 h3 hb').1
    have hpur : ∀ {a b : Nat}, purR rs = true → purR ((rs.drop a).take b) = true := by
      intro a b hp
      rw [purR_iff] at hp ⊢
      exact fun r hr => hp r (List.mem_of_mem_drop (List.mem_of_mem_take hr))
    obtain ⟨hp, ⟨rfl, rfl | ⟨i, off, cap, t, rfl⟩⟩ | ⟨esz0, i, off, cap, t, cs', rfl, f2, f3, f4, f5, f6⟩⟩ := hs
    · have := key 0 (Nat.le_refl _)
      rw [List.length_nil] at this
      simp only [this, Option.map_some]
      exact ⟨_, rfl, by rw [List.drop_nil, List.take_nil]; rfl, .inl ⟨by simp, .inl rfl⟩⟩
    · have := key cap (Nat.zero_le _)
      rw [List.length_nil] at this
      simp only [this, Option.map_some]
      have hz : hh - l = 0 := by simp at hhr; omega
      rw [hz]
      exact ⟨_, rfl, by rw [List.drop_nil, List.take_nil]; rfl, .inl ⟨by simp, .inr ⟨_, _, _, _, rfl⟩⟩⟩
    · simp only [key cap f3, Option.map_some]
      refine ⟨_, rfl, hpur hp, ?_⟩
      by_cases hrs : rs = []
      · subst hrs
        simp at hhr
        have hz : hh - l = 0 := by omega
        rw [hz]
        exact .inl ⟨by simp, .inr ⟨_, _, _, _, rfl⟩⟩
      · have hee : esz0 = esz := even_eq f4 hev hrs
        subst hee
        have hl : ((rs.drop l).take (hh - l)).length = hh - l := by rw [List.length_take, List.length_drop]; omega
        have hE := evenB_iff.1 hev
        have hsg := flat_seg hE (a := l) (n := hh - l) (by omega)
        obtain ⟨x, x1, x2⟩ := (DVr_iff.1 f6).seg hsg
        have hpart := loadN_part (p := l * esz0) (m := (hh - l) * esz0) f5 (by rw [← Nat.add_mul]; exact Nat.mul_le_mul_right _ (by omega))
        obtain ⟨_, x1⟩ := seg_some x1
        refine .inr ⟨esz0, i, off + l * esz0, cap - l, (t && (Option.map X.c (none : Option AV)).isNone), x, ?_, f2, ?_, ?_, ?_, DVr_iff.2 x2⟩
        · rw [hl]
        · rw [hl]; omega
        · exact evenB_iff.2 ((hE.drop _).take _)
        · rw [hl, x1]; exact hpart

theorem copyD_ok (hI : Inv K G C) {fl esz : Nat} {d s d' s' : AV} (hd : DV C d d') (hs : DV C s s') {v : AV} {L' : DHeap} (h : copyD fl esz C.L d s = some (v, L')) :
    ∃ H', opF (.copy esz (.c d') (.c s')) .leaf C.H = some (v, H') ∧ Stp K G C ⟨L', C.m, H', C.F⟩ ∧ DV ⟨L', C.m, H', C.F⟩ v v := by
  unfold copyD at h
  split at h
  case h_2 => cases h
  rename_i n src hn hsrc
  have hnl := hd.lenV hn
  split at h
  · rename_i h0
    cases h
    refine ⟨C.H, ?_, Stp.refl hI, rfl⟩
    have hz : Nat.min src.length n = 0 := by rcases h0 with h0 | h0 <;> rw [h0] <;> simp [Nat.min_def]
    -- the rows' length may be read without their size
    have hsl : lenOf s' = some src.length := by
      by_cases he : src = []
      · exact (rowsV_ok hI hs hsrc (esz := 0) (by rw [he]; rfl)).1
      · cases s <;> first
          | (cases hsrc; done)
          | skip
        · cases hsrc; exact absurd rfl he
        · rename_i i off len cap t
          cases i with
          | o g => exact hs.elim
          | n k =>
            simp only [rowsV] at hsrc
            split at hsrc
            · rename_i e rs g hB
              split at hsrc
              · rename_i hv
                cases hsrc
                exact (rowsV_ok hI hs (by simp only [rowsV, hB, hv, if_true]) (esz := e) (evenB_iff.2 (((evenB_iff.1 (hI.blk k _ hB).1).drop _).take _))).1
              · cases hsrc
            · cases hsrc
        · rename_i rs
          cases hsrc
          obtain ⟨_, ⟨rfl, _⟩ | ⟨esz0, i, off, cap, t, cs', rfl, _⟩⟩ := hs
          · exact absurd rfl he
          · rfl
    simp only [opF, ev, hnl, hsl, hz]
    have hr : rows C.H esz 0 s' = some [] := by
      cases s' <;> first
        | (cases hsl; done)
        | rfl
        | simp [rows, loadN_zero]
    rw [hr]
    simp only
    split
    · simp [AHeap.storeN]
    · simp
  · rename_i h0
    split at h
    case h_2 => cases h
    rename_i k off len cap t
    split at h
    case h_2 => cases h
    rename_i e rs g hB
    simp only at h
    split at h
    case isFalse => cases h
    rename_i hc
    obtain ⟨hv, he, hev, hone, hpf⟩ := hc
    cases h
    subst he
    obtain ⟨r1, r2⟩ := rowsV_ok hI hs hsrc hev
    obtain ⟨nw, r3, r4⟩ := r2 (Nat.min src.length n) (Nat.min_le_left _ _)
    simp only [lenV, hB, hv, if_true, Option.some.injEq] at hn
    subst hn
    obtain ⟨v1, v2, v3⟩ := validB_iff hv
    obtain ⟨hk, _, hcc⟩ := hd
    have h3 := (hcc e rs g hB).2 hv
    have hne : rs ≠ [] := by intro e0; rw [e0] at v1; simp at v1; omega
    rw [if_neg (fun hh => hne hh.2)] at h3
    subst h3
    have hre : real (.rows e rs g) = true := by
      cases rs with
      | cons _ _ => rfl
      | nil => exact absurd rfl hne
    have hb := hI.blk k _ hB
    obtain ⟨cs', g1, g2⟩ := hb.2 hre
    have hevr := evenB_iff.1 hb.1
    have hcl := g2.length hevr
    have hE : Even e ((src.take (Nat.min src.length len)).map (·.map nrm)) := ((evenB_iff.1 hev).take _).mapNrm
    have r5 : DVs C ((src.take (Nat.min src.length len)).map (·.map nrm)).flatten nw := by rw [flat_nrm]; exact r4.nrm
    have hlen : ((src.take (Nat.min src.length len)).map (·.map nrm)).length = Nat.min src.length len := by
      rw [List.length_map, List.length_take]
      exact Nat.min_eq_left (Nat.min_le_left _ _)
    have hmin : Nat.min src.length len ≤ len := Nat.min_le_right _ _
    generalize hnew : (src.take (Nat.min src.length len)).map (·.map nrm) = new at *
    have hnwl : nw.length = new.length * e := by rw [← r5.length, flat_length hE]
    have hn1 : nw.all AV.one = true := by
      refine r5.oneb ?_
      rw [oneR_iff] at hone
      exact hone
    obtain ⟨H', e1, e2⟩ := Stp.write hI hB hre (B := .rows e (lay rs off new) g) ⟨rfl, .inl ⟨length_lay _ _ _ (by omega), rfl, rfl⟩⟩ g1 (o := off * e) (vs := nw) (by
        rw [hnwl, hcl, ← Nat.add_mul]
        exact Nat.mul_le_mul_right _ (by omega)) hn1 fun D hD hg => by
          refine ⟨evenB_iff.2 (((hevr.take _).append hE).append (hevr.drop _)), fun _ => ⟨_, hg, ?_⟩⟩
          rw [DVr_iff, ← flat_lay hevr hE]
          exact ((DVr_iff.1 g2).lay _ r5).ext hD
    refine ⟨H', ?_, e2, rfl⟩
    simp only [opF, ev, hnl, r1, r3, e1, Option.map_some]
theorem zeros_eq (z : List AV) (n : Nat) : zeros z n = (List.replicate n z).flatten := rfl
theorem zeros_DVs (C : Ctx) {z : List AV} (hz : csts z = true) (n : Nat) : DVs C (List.replicate n (z.map nrm)).flatten (zeros z n) := by
  unfold zeros
  induction n with
  | zero => exact DVs.nil
  | succ n ih =>
    rw [List.replicate_succ, List.replicate_succ, List.flatten_cons, List.flatten_cons]
    exact (csts_DV C hz).nrm.append ih
theorem clearD_ok (hI : Inv K G C) {fl : Nat} {z : List AV} (hz : csts z = true) {x x' : AV} (hx : DV C x x') {L' : DHeap} (h : clearD fl z C.L x = some L') :
    ∃ H', clearF z x' C.H = some H' ∧ Stp K G C ⟨L', C.m, H', C.F⟩ := by
  unfold clearD at h
  split at h
  · cases h
    rcases hx with rfl | ⟨i, off, rfl⟩
    · exact ⟨_, rfl, Stp.refl hI⟩
    · exact ⟨C.H, by simp [clearF], Stp.refl hI⟩
  · rename_i k off len cap t
    split at h
    case h_2 => cases h
    rename_i e rs g hB
    simp only at h
    split at h
    case isFalse => cases h
    rename_i hc
    obtain ⟨hv, he, hone, hpf⟩ := hc
    cases h
    obtain ⟨v1, v2, v3⟩ := validB_iff hv
    obtain ⟨hk, hsl, hcc⟩ := hx
    have h3 := (hcc e rs g hB).2 hv
    by_cases h0 : len = 0
    · subst h0
      rw [if_pos rfl]
      refine ⟨C.H, ?_, Stp.refl hI⟩
      split at h3
      · rcases h3 with rfl | ⟨_, _, rfl⟩
        · rfl
        · simp [clearF]
      · subst h3; simp [clearF]
    · rw [if_neg h0]
      have he := he.resolve_left h0
      have hne : rs ≠ [] := by intro e0; rw [e0] at v1; simp at v1; omega
      rw [if_neg (fun hh => hne hh.2)] at h3
      subst h3
      have hre : real (.rows e rs g) = true := by
        cases rs with
        | cons _ _ => rfl
        | nil => exact absurd rfl hne
      have hb := hI.blk k _ hB
      obtain ⟨cs', g1, g2⟩ := hb.2 hre
      have hevr := evenB_iff.1 hb.1
      have hcl := g2.length hevr
      have hE : Even e (List.replicate len (z.map nrm)) := Even.replicate _ (by rw [List.length_map]; exact he.symm) _
      have r5 := zeros_DVs C hz len
      have hnwl : (zeros z len).length = len * e := by rw [← r5.length, flat_length hE, List.length_replicate]
      have hn1 : (zeros z len).all AV.one = true := by
        refine r5.oneb ?_
        rw [List.all_eq_true] at hone ⊢
        intro y hy
        obtain ⟨l, hl, hy⟩ := List.mem_flatten.1 hy
        rw [(List.mem_replicate.1 hl).2] at hy
        exact hone y hy
      obtain ⟨H', e1, e2⟩ := Stp.write hI hB hre (B := .rows e (lay rs off (List.replicate len (z.map nrm))) g) ⟨rfl, .inl ⟨length_lay _ _ _ (by rw [List.length_replicate]; omega), rfl, rfl⟩⟩ g1 (o := off * e) (vs := zeros z len) (by
          rw [hnwl, hcl, ← Nat.add_mul]
          exact Nat.mul_le_mul_right _ (by omega)) hn1 fun D hD hg => by
            refine ⟨evenB_iff.2 (((hevr.take _).append hE).append (hevr.drop _)), fun _ => ⟨_, hg, ?_⟩⟩
            rw [DVr_iff, ← flat_lay hevr hE]
            exact ((DVr_iff.1 g2).lay _ r5).ext hD
      refine ⟨H', ?_, e2⟩
      simp only [clearF, h0, if_false]
      exact e1
  · cases h
theorem replicate_even (z : List AV) (n : Nat) : evenB z.length (List.replicate n z) = true := evenB_iff.2 (Even.replicate z rfl n)
theorem mkSliceD_ok (hI : Inv K G C) {esz bytes : Nat} {z : List AV} (hz : csts z = true) {l c l' c' : AV} (hl : DV C l l') (hc : DV C c c') {v : AV} {L' : DHeap} (h : mkSliceD esz bytes z C.L l c = some (v, L')) :
    ∃ v' m' H', opF (.mkSlice esz bytes z (.c l') (.c c')) .leaf C.H = some (v', H') ∧ Stp K G C ⟨L', m', H', C.F⟩ ∧ DV ⟨L', m', H', C.F⟩ v v' := by
  unfold mkSliceD at h
  split at h
  · rename_i k1 l k2 c
    cases hl; cases hc
    split at h
    · rename_i hc
      obtain ⟨h1, h2, h3, h4, h5⟩ := hc
      cases h
      refine ⟨_, _, _, by simp only [opF, ev]; rw [if_pos ⟨h1, h2, h3, h4⟩], Stp.alloc hI _ _ fun hD => ⟨evenB_iff.2 (Even.replicate _ (by rw [List.length_map]; exact h5) _), fun _ => ⟨_, by show (C.H.alloc _).get _ = _; rw [AHeap.get_alloc]; exact if_pos rfl, ?_⟩⟩, ?_⟩
      · rw [DVr_iff]
        have := zeros_DVs C hz c.toNat
        exact this.ext hD
      · have := slc_new (D := ⟨halloc C.L (.rows esz (List.replicate c.toNat (z.map nrm)) false), updm C.m C.L.length (.n C.H.next), C.H.alloc (.cells (zeros z c.toNat) 0), C.F⟩) (k := C.L.length) (e := esz) (rs := List.replicate c.toNat (z.map nrm)) (g := false) (by simp only [hget_halloc, if_true]) (off := 0) (len := l.toNat) (cap := c.toNat) (t := false) (by simp) (.inr rfl) (updm_same _ _ _)
        rw [Nat.zero_mul] at this
        exact this
    · cases h
  · cases h
theorem chunks_flat (n : Nat) : ∀ (m : Nat) (cs : List AV), cs.length = m * n → (chunks n m cs).flatten = cs ∧ Even n (chunks n m cs) ∧ (chunks n m cs).length = m
  | 0, cs, h => by
    have : cs = [] := List.eq_nil_of_length_eq_zero (by omega)
    subst this
    exact ⟨rfl, Even.nil _, rfl⟩
  | m + 1, cs, h => by
    rw [Nat.add_mul, Nat.one_mul] at h
    obtain ⟨h1, h2, h3⟩ := chunks_flat n m (cs.drop n) (by rw [List.length_drop]; omega)
    refine ⟨?_, Even.cons (by rw [List.length_take]; omega) h2, by simp [chunks, h3]⟩
    rw [chunks, List.flatten_cons, h1, List.take_append_drop]
theorem bsliceD_ok (hI : Inv K G C) {esz len : Nat} {cs cs' : List AV} (hc : DVs C cs cs') {v : AV} {L' : DHeap} (h : bsliceD esz len C.L cs = some (v, L')) :
    ∃ m', Stp K G C ⟨L', m', C.H.alloc (.cells cs' 0), C.F⟩ ∧ DV ⟨L', m', C.H.alloc (.cells cs' 0), C.F⟩ v (.slc (.n C.H.next) 0 len len false) := by
  unfold bsliceD at h
  split at h
  · rename_i hl
    cases h
    obtain ⟨h1, h2, h3⟩ := chunks_flat esz len (cs.map nrm) (by rw [List.length_map]; exact hl)
    refine ⟨_, Stp.alloc hI _ _ fun hD => ⟨evenB_iff.2 h2, fun _ => ⟨_, by show (C.H.alloc _).get _ = _; rw [AHeap.get_alloc]; exact if_pos rfl, ?_⟩⟩, ?_⟩
    · rw [DVr_iff, h1]
      exact hc.nrm.ext hD
    · have := slc_new (D := ⟨halloc C.L (.rows esz (chunks esz len (cs.map nrm)) false), updm C.m C.L.length (.n C.H.next), C.H.alloc (.cells cs' 0), C.F⟩) (k := C.L.length) (e := esz) (rs := chunks esz len (cs.map nrm)) (g := false) (by simp only [hget_halloc, if_true]) (off := 0) (len := len) (cap := len) (t := false) (by rw [h3]; omega) (.inr rfl) (updm_same _ _ _)
      rw [Nat.zero_mul] at this
      exact this
  · cases h

/-! ### maps -/
theorem DV.ok {a b : AV} (h : DV C a b) : a.ok = true := by
  cases a <;> first
    | rfl
    | exact h.elim
theorem DV.agg {a b : AV} (h : DV C a b) : aggV b = aggV a := by
  cases a with
  | agg cs => obtain ⟨cs', rfl, hy⟩ := h; rfl
  | junk => exact h.elim
  | tuple cs => obtain ⟨cs', rfl, hy⟩ := h; rfl
  | bool b => cases h; rfl
  | int k n => cases h; rfl
  | str s => cases h; rfl
  | nilptr => cases h; rfl
  | nilmap => cases h; rfl
  | nilfunc => cases h; rfl
  | niliface => cases h; rfl
  | nilslc => rcases h with rfl | ⟨i, off, rfl⟩ <;> rfl
  | ptr i o =>
    cases i with
    | n k => obtain ⟨_, i, p, rfl, _⟩ := h; rfl
    | o g => cases h; rfl
  | fptr cs o => obtain ⟨i, p, cs', rfl, _⟩ := h; rfl
  | eptr k v r o => obtain ⟨_, i, p, rfl, _⟩ := h; rfl
  | slc i off len cap t =>
    cases i with
    | n k =>
      obtain ⟨_, hs, _⟩ := h
      cases b <;> first | rfl | exact hs.elim
    | o g => exact h.elim
  | lst rs => obtain ⟨_, ⟨_, rfl | ⟨_, _, _, _, rfl⟩⟩ | ⟨_, _, _, _, _, _, rfl, _⟩⟩ := h <;> rfl
  | map i =>
    cases i with
    | n k => obtain ⟨_, i, rfl, _⟩ := h; rfl
    | o g => exact h.elim
  | func f x y => obtain ⟨a', b', rfl, _⟩ := h; rfl
  | iface t x => obtain ⟨y, rfl, _⟩ := h; rfl
theorem cellsEq_right : ∀ {ks : List CK} {x a a' : List AV} {r : Bool}, DVs C a a' → cellsEq ks x a = some r → a' = a
  | [], [], [], a', r, h1, _ => h1
  | [], _ :: _, _, _, _, _, h => by simp [cellsEq] at h
  | [], [], _ :: _, _, _, _, h => by simp [cellsEq] at h
  | _ :: _, [], _, _, _, _, h => by simp [cellsEq] at h
  | _ :: _, _ :: _, [], _, _, _, h => by simp [cellsEq] at h
  | k :: ks, a :: as, b :: bs, b', r, h2, h => by
    obtain ⟨y, ys, rfl, hy, hys⟩ := h2
    unfold cellsEq at h
    split at h
    · rename_i r1 hr
      split at h
      · rename_i r2 hr2
        rw [hy.lit (cellEq_lit hr).2, cellsEq_right hys hr2]
      · cases h
    · cases h
theorem kinds_lit : ∀ {ks : List CK} {l : List AV}, kindsOk ks l = true → ∀ {m : List AV}, DVs C l m → m = l
  | [], [], _, m, h => h
  | [], _ :: _, hk, _, _ => by simp [kindsOk] at hk
  | k :: ks, [], hk, _, _ => by cases k <;> simp [kindsOk] at hk
  | k :: ks, a :: l, hk, m, h => by
    obtain ⟨b, bs, rfl, h1, h2⟩ := h
    have : litB a = true ∧ kindsOk ks l = true := by
      cases k <;> cases a <;> simp [kindsOk] at hk <;> exact ⟨rfl, hk⟩
    rw [h1.lit this.1, kinds_lit this.2 h2]
theorem keyOk_lit {ks : List CK} {ag : Bool} {k k' : AV} (hk : keyOk ks ag k = true) (h : DV C k k') : k' = k := by
  unfold keyOk at hk
  rw [Bool.and_eq_true] at hk
  have h2 := hk.2
  cases k <;> first
    | exact h
    | skip
  case agg cs =>
    obtain ⟨cs', rfl, hc⟩ := h
    have h2 : kindsOk ks cs = true := h2
    rw [kinds_lit h2 hc]
  all_goals
    exfalso
    simp only [AV.cells] at h2
    cases ks with
    | nil => simp [kindsOk] at h2
    | cons c ks => cases c <;> simp [kindsOk] at h2
theorem findKey_ok {ks : List CK} {k : AV} : ∀ {es es' : List (AV × AV × Nat)} {i : Nat} {r : Option (Nat × AV)}, DVs C (es.map (·.1)) (es'.map (·.1)) → DVs C (es.map (·.2.1)) (es'.map (·.2.1)) → findKey ks k es i = some r →
    (r = none ∧ findKey ks k es' i = some none) ∨ ∃ j v v', r = some (j, v) ∧ findKey ks k es' i = some (some (j, v')) ∧ DV C v v' ∧ i ≤ j ∧ j - i < es.length ∧ (es.map (·.2.1))[j - i]? = some v
  | [], es', i, r, h1, _, h => by
    have : es' = [] := List.eq_nil_of_length_eq_zero (by have := h1.length; simp at this; omega)
    subst this
    cases h
    exact .inl ⟨rfl, rfl⟩
  | (q, v, b) :: es, es', i, r, h1, h2, h => by
    cases es' with
    | nil => have := h1.length; simp at this
    | cons e' es' =>
    obtain ⟨q', v', b'⟩ := e'
    simp only [List.map_cons] at h1 h2
    obtain ⟨g1, g2⟩ := DVs.cons_iff.1 h1
    obtain ⟨g3, g4⟩ := DVs.cons_iff.1 h2
    simp only [findKey] at h
    split at h
    · rename_i hagg
      have hag' : aggV q' = aggV k := by rw [← hagg]; exact g1.agg
      simp only [findKey]
      rw [if_pos hag']
      have hq : ∀ r, cellsEq ks k.cells q.cells = some r → cellsEq ks k.cells q'.cells = some r := by
        intro r hr
        rw [cellsEq_right (g1.cells g1.ok) hr]
        exact hr
      split at h
      · rename_i hc
        cases h
        rw [hq _ hc]
        exact .inr ⟨i, v, v', rfl, rfl, g3, Nat.le_refl _, by simp, by simp⟩
      · rename_i hc
        rw [hq _ hc]
        rcases findKey_ok g2 g4 h with h5 | ⟨j, x, x', e1, e2, e3, e4, e5, e6⟩
        · exact .inl h5
        · refine .inr ⟨j, x, x', e1, e2, e3, by omega, by simp; omega, ?_⟩
          rw [show j - i = (j - (i + 1)) + 1 by omega]
          simpa using e6
      · cases h
    · cases h
theorem entries_ok (hI : Inv K G C) {m m' : AV} (hm : DV C m m') {es : List (AV × AV × Nat)} (h : entries C.L m = some es) :
    (m = .nilmap ∧ m' = .nilmap ∧ es = []) ∨ ∃ k c es', m = .map (.n k) ∧ m' = .map (C.m k) ∧ hget C.L k = some (.map es c) ∧ C.H.get (C.m k) = some (.map es' c) ∧ es'.map (·.2.2) = es.map (·.2.2) ∧
      DVs C (es.map (·.1)) (es'.map (·.1)) ∧ DVs C (es.map (·.2.1)) (es'.map (·.2.1)) := by
  unfold entries at h
  split at h
  · cases h; cases hm; exact .inl ⟨rfl, rfl, rfl⟩
  · rename_i k
    split at h
    · rename_i es0 c hB
      cases h
      obtain ⟨_, i, rfl, hc⟩ := hm
      obtain ⟨es', g1, g2, g3, g4⟩ := hI.blk k _ hB
      rw [hc _ _ hB]
      exact .inr ⟨k, c, es', rfl, rfl, hB, g1, g2, g3, g4⟩
    · cases h
  · cases h
theorem lookD_ok (hI : Inv K G C) {z : AV} (hz : cst z = true) {kn : List CK} {ag ok : Bool} {m k m' k' : AV} (hm : DV C m m') (hk : DV C k k') {v : AV} (h : lookD z kn ag ok C.L m k = some v) :
    ∃ v', lookupF z kn ag ok m' k' C.H = some (v', C.H) ∧ DV C v v' := by
  unfold lookD at h
  split at h
  case isFalse => cases h
  rename_i hko
  have hkk := keyOk_lit hko hk
  subst hkk
  split at h
  · cases h
  rename_i es hes
  have two : ∀ {a b : AV} {c : Bool}, DV C a b → ∀ v, some (if ok = true then AV.tuple [a, .bool c] else a) = some v → ∃ v', some (if ok = true then AV.tuple [b, .bool c] else b, C.H) = some (v', C.H) ∧ DV C v v' := by
    intro a b c hab v hv
    cases hv
    cases ok
    · exact ⟨b, rfl, hab⟩
    · exact ⟨_, rfl, _, rfl, DVs.cons hab (DVs.cons rfl rfl)⟩
  have hzz := cst_DV C hz
  simp only [lookupF, opF, ev, hko, if_true]
  rcases entries_ok hI hm hes with ⟨rfl, rfl, rfl⟩ | ⟨q, c, es', rfl, rfl, hB, g1, g2, g3, g4⟩
  · simp only [findKey] at h ⊢
    exact two hzz v h
  · simp only [g1]
    split at h
    · cases h
    · rename_i j u hf
      rcases findKey_ok g3 g4 hf with ⟨e, _⟩ | ⟨j', u1, u', e, e2, e3, _⟩
      · cases e
      · cases e
        simp only [e2]
        exact two e3 v h
    · rename_i hf
      rcases findKey_ok g3 g4 hf with ⟨_, e2⟩ | ⟨j', u1, u', e, _⟩
      · simp only [e2]
        exact two hzz v h
      · cases e
/-- A map is written. -/
theorem Stp.setMap (hI : Inv K G C) {k : Nat} {es : List (AV × AV × Nat)} {c : Nat} (hk : hget C.L k = some (.map es c)) {fs gs : List (AV × AV × Nat)} {d : Nat}
    (h1 : gs.map (·.2.2) = fs.map (·.2.2)) (h2 : DVs C (fs.map (·.1)) (gs.map (·.1))) (h3 : DVs C (fs.map (·.2.1)) (gs.map (·.2.1))) :
    ∃ j, C.m k = .n j ∧ Stp K G C ⟨hset C.L k (.map fs d), C.m, C.H.setN j (.map gs d), C.F⟩ := by
  obtain ⟨j, hj⟩ := hI.new k _ hk rfl
  obtain ⟨es', g1, _⟩ := hI.blk k _ hk
  rw [hj] at g1
  refine ⟨j, hj, Stp.set hI hk rfl hj _ _ rfl fun hD => ⟨gs, ?_, h1, h2.ext hD, h3.ext hD⟩⟩
  show (C.H.setN j _).get _ = _
  rw [AHeap.get_setN _ _ _ (AHeap.get_lt g1), if_pos rfl]
theorem map_modify {α β : Type} (f : α → β) (g : α → α) (l : List α) (j : Nat) (h : β → β) (hc : ∀ a, f (g a) = h (f a)) : (l.modify j g).map f = (l.map f).modify j h := by
  apply List.ext_getElem?
  intro i
  simp only [List.getElem?_map, List.getElem?_modify]
  cases l[i]? with
  | none => simp
  | some a =>
    by_cases e : j = i <;> simp [e, hc]
theorem map_same {α β : Type} (f : α → β) (g : α → α) (l : List α) (j : Nat) (hc : ∀ a, f (g a) = f a) : (l.modify j g).map f = l.map f := by
  apply List.ext_getElem?
  intro i
  simp only [List.getElem?_map, List.getElem?_modify]
  cases l[i]? with
  | none => simp
  | some a => by_cases e : j = i <;> simp [e, hc]
theorem DVs.modify {as bs : List AV} (h : DVs C as bs) (j : Nat) {a b : AV} (k : DV C a b) : DVs C (as.modify j fun _ => a) (bs.modify j fun _ => b) := by
  induction as generalizing bs j with
  | nil =>
    have : bs = [] := h
    subst this
    simp
    exact DVs.nil
  | cons x as ih =>
    obtain ⟨y, ys, rfl, h1, h2⟩ := h
    cases j with
    | zero => simp; exact DVs.cons k h2
    | succ j => simp; exact DVs.cons h1 (ih h2 j)
theorem modify_id {α : Type} (l : List α) (j : Nat) (f : α → α) (h : ∀ a, f a = a) : l.modify j f = l := by
  apply List.ext_getElem?
  intro i
  rw [List.getElem?_modify]
  by_cases e : j = i <;> cases l[i]? <;> simp [e, h]
theorem mapSetD_ok (hI : Inv K G C) {fl : Nat} {kn : List CK} {ag : Bool} {m k x m' k' x' : AV} (hm : DV C m m') (hk : DV C k k') (hx : DV C x x') {L' : DHeap} (h : mapSetD fl kn ag C.L m k x = some L') :
    ∃ H', mapSetF kn ag m' k' x' C.H = some (.undef, H') ∧ Stp K G C ⟨L', C.m, H', C.F⟩ := by
  unfold mapSetD at h
  split at h
  case isFalse => cases h
  rename_i hko
  have hkk := keyOk_lit hko hk
  subst hkk
  split at h
  case h_2 => cases h
  rename_i i
  split at h
  case h_2 => cases h
  rename_i es c hB
  split at h
  case isFalse => cases h
  obtain ⟨_, i', rfl, hc⟩ := hm
  obtain rfl := hc _ _ hB
  obtain ⟨es', g1, g2, g3, g4⟩ := hI.blk i _ hB
  obtain ⟨j0, hj0⟩ := hI.new i _ hB rfl
  simp only [mapSetF, opF, ev, hko, if_true, hj0] at g1 ⊢
  simp only [g1]
  split at h
  · cases h
  · rename_i j u hf
    cases h
    rcases findKey_ok g3 g4 hf with ⟨e, _⟩ | ⟨j', u1, u', e, e2, e3, _⟩
    · cases e
    · cases e
      simp only [e2]
      obtain ⟨j1, hj1, hst⟩ := Stp.setMap hI hB (fs := es.modify j fun e => (k', x, e.2.2)) (gs := es'.modify j fun e => (k', x', e.2.2)) (d := c)
        (by rw [map_same, map_same, g2] <;> (intro _; rfl))
        (by rw [map_modify (h := fun _ => k'), map_modify (h := fun _ => k')]; exact g3.modify j hk; all_goals (intro _; rfl))
        (by rw [map_modify (h := fun _ => x), map_modify (h := fun _ => x')]; exact g4.modify j hx; all_goals (intro _; rfl))
      rw [hj0] at hj1
      cases hj1
      exact ⟨_, rfl, hst⟩
  · rename_i hf
    cases h
    rcases findKey_ok g3 g4 hf with ⟨_, e2⟩ | ⟨j', u1, u', e, _⟩
    · simp only [e2]
      obtain ⟨j1, hj1, hst⟩ := Stp.setMap hI hB (fs := es ++ [(k', x, c)]) (gs := es' ++ [(k', x', c)]) (d := c + 1)
        (by simp [g2]) (by simp only [List.map_append, List.map_cons, List.map_nil]; exact g3.append (DVs.cons hk DVs.nil)) (by simp only [List.map_append, List.map_cons, List.map_nil]; exact g4.append (DVs.cons hx DVs.nil))
      rw [hj0] at hj1
      cases hj1
      exact ⟨_, rfl, hst⟩
    · cases e
theorem mapEntryD_ok (hI : Inv K G C) {fl : Nat} {z : AV} (hz : cst z = true) {kn : List CK} {ag : Bool} {m k m' k' : AV} (hm : DV C m m') (hk : DV C k k') {v : AV} {L' : DHeap} (h : mapEntryD fl z kn ag C.L m k = some (v, L')) :
    ∃ v' H', mapEntryF z kn ag m' k' C.H = some (v', H') ∧ Stp K G C ⟨L', C.m, H', C.F⟩ ∧ DV ⟨L', C.m, H', C.F⟩ v v' := by
  unfold mapEntryD at h
  split at h
  case isFalse => cases h
  rename_i hko
  have hkk := keyOk_lit hko hk
  subst hkk
  split at h
  case h_2 => cases h
  rename_i i
  split at h
  case h_2 => cases h
  rename_i es c hB
  split at h
  case isFalse => cases h
  obtain ⟨_, i', rfl, hc⟩ := hm
  obtain rfl := hc _ _ hB
  obtain ⟨es', g1, g2, g3, g4⟩ := hI.blk i _ hB
  obtain ⟨j0, hj0⟩ := hI.new i _ hB rfl
  have hzz := cst_DV C hz
  simp only [mapEntryF, opF, ev, hko, if_true, hj0] at g1 ⊢
  simp only [g1]
  split at h
  · cases h
  · rename_i j u hf
    rcases findKey_ok g3 g4 hf with ⟨e, _⟩ | ⟨j', u1, u', e, e2, e3, _⟩
    · cases e
    · cases e
      simp only [e2]
      split at h
      · rename_i e hej
        cases h
        have hb : (es'.map (·.2.2))[j]? = some e.2.2 := by rw [g2, List.getElem?_map, hej]; rfl
        rw [List.getElem?_map, Option.map_eq_some_iff] at hb
        obtain ⟨e', he1, he2⟩ := hb
        simp only [he1]
        obtain ⟨j1, hj1, hst⟩ := Stp.setMap hI hB (fs := es.modify j fun e => (k', e.2)) (gs := es'.modify j fun e => (k', e.2)) (d := c)
          (by rw [map_same, map_same, g2] <;> (intro _; rfl))
          (by rw [map_modify (h := fun _ => k'), map_modify (h := fun _ => k')]; exact g3.modify j hk; all_goals (intro _; rfl))
          (by rw [map_same, map_same]; exact g4; all_goals (intro _; rfl))
        rw [hj0] at hj1
        cases hj1
        exact ⟨_, _, rfl, hst, _, rfl, DVs.cons (e3.ext hst.ext) (DVs.cons (by rw [he2]; exact rfl) rfl)⟩
      · cases h
  · rename_i hf
    cases h
    rcases findKey_ok g3 g4 hf with ⟨_, e2⟩ | ⟨j', u1, u', e, _⟩
    · simp only [e2]
      obtain ⟨j1, hj1, hst⟩ := Stp.setMap hI hB (fs := es ++ [(k', z, c)]) (gs := es' ++ [(k', z, c)]) (d := c + 1)
        (by simp [g2]) (by simp only [List.map_append, List.map_cons, List.map_nil]; exact g3.append (DVs.cons hk DVs.nil)) (by simp only [List.map_append, List.map_cons, List.map_nil]; exact g4.append (DVs.cons hzz DVs.nil))
      rw [hj0] at hj1
      cases hj1
      exact ⟨_, _, rfl, hst, _, rfl, DVs.cons (cst_DV _ hz) (DVs.cons rfl rfl)⟩
    · cases e
theorem findIdx_bornD {es es' : List (AV × AV × Nat)} (h : es'.map (·.2.2) = es.map (·.2.2)) (b : Int) : es'.findIdx? (fun e => decide ((e.2.2 : Int) = b)) = es.findIdx? (fun e => decide ((e.2.2 : Int) = b)) := by
  have : ∀ l : List (AV × AV × Nat), l.findIdx? (fun e => decide ((e.2.2 : Int) = b)) = (l.map (·.2.2)).findIdx? (fun (e : Nat) => decide ((e : Int) = b)) := by
    intro l
    induction l with
    | nil => rfl
    | cons a l ih => simp only [List.map_cons, List.findIdx?_cons, ih]
  rw [this, this, h]
theorem entryStoreD_ok (hI : Inv K G C) {fl : Nat} {m s x m' s' x' : AV} (hm : DV C m m') (hs : DV C s s') (hx : DV C x x') {L' : DHeap} (h : entryStoreD fl C.L m s x = some L') :
    ∃ H', entryStoreF m' s' x' C.H = some (.undef, H') ∧ Stp K G C ⟨L', C.m, H', C.F⟩ := by
  unfold entryStoreD at h
  split at h
  case h_2 => cases h
  rename_i i kb b
  cases hs
  split at h
  case h_2 => cases h
  rename_i es c hB
  split at h
  case isFalse => cases h
  obtain ⟨_, i', rfl, hc⟩ := hm
  obtain rfl := hc _ _ hB
  obtain ⟨es', g1, g2, g3, g4⟩ := hI.blk i _ hB
  obtain ⟨j0, hj0⟩ := hI.new i _ hB rfl
  simp only [entryStoreF, opF, ev, hj0] at g1 ⊢
  simp only [g1, findIdx_bornD g2]
  split at h
  · rename_i j hj
    cases h
    simp only [hj]
    obtain ⟨j1, hj1, hst⟩ := Stp.setMap hI hB (fs := es.modify j fun e => (e.1, x, e.2.2)) (gs := es'.modify j fun e => (e.1, x', e.2.2)) (d := c)
      (by rw [map_same, map_same, g2] <;> (intro _; rfl))
      (by rw [map_same, map_same]; exact g3; all_goals (intro _; rfl))
      (by rw [map_modify (h := fun _ => x), map_modify (h := fun _ => x')]; exact g4.modify j hx; all_goals (intro _; rfl))
    rw [hj0] at hj1
    cases hj1
    exact ⟨_, rfl, hst⟩
  · cases h
theorem map_eraseIdx {α β : Type} (f : α → β) : ∀ (l : List α) (j : Nat), (l.eraseIdx j).map f = (l.map f).eraseIdx j
  | [], j => by simp
  | a :: l, 0 => by simp
  | a :: l, j + 1 => by simp [map_eraseIdx f l j]
theorem DVs.eraseIdx {as bs : List AV} (h : DVs C as bs) (j : Nat) : DVs C (as.eraseIdx j) (bs.eraseIdx j) := by
  induction as generalizing bs j with
  | nil =>
    have : bs = [] := h
    subst this
    simp
    exact DVs.nil
  | cons x as ih =>
    obtain ⟨y, ys, rfl, h1, h2⟩ := h
    cases j with
    | zero => simpa using h2
    | succ j => simp; exact DVs.cons h1 (ih h2 j)
theorem deleteD_ok (hI : Inv K G C) {kn : List CK} {ag : Bool} {m k m' k' : AV} (hm : DV C m m') (hk : DV C k k') {L' : DHeap} (h : deleteD kn ag C.L m k = some L') :
    ∃ H', deleteF kn ag m' k' C.H = some (.undef, H') ∧ Stp K G C ⟨L', C.m, H', C.F⟩ := by
  unfold deleteD at h
  split at h
  case isFalse => cases h
  rename_i hko
  have hkk := keyOk_lit hko hk
  subst hkk
  split at h
  case h_2 => cases h
  rename_i i
  split at h
  case h_2 => cases h
  rename_i es c hB
  obtain ⟨_, i', rfl, hc⟩ := hm
  obtain rfl := hc _ _ hB
  obtain ⟨es', g1, g2, g3, g4⟩ := hI.blk i _ hB
  obtain ⟨j0, hj0⟩ := hI.new i _ hB rfl
  simp only [deleteF, opF, ev, hko, if_true, hj0] at g1 ⊢
  simp only [g1]
  split at h
  · cases h
  · rename_i j u hf
    cases h
    rcases findKey_ok g3 g4 hf with ⟨e, _⟩ | ⟨j', u1, u', e, e2, e3, _⟩
    · cases e
    · cases e
      simp only [e2]
      obtain ⟨j1, hj1, hst⟩ := Stp.setMap hI hB (fs := es.eraseIdx j) (gs := es'.eraseIdx j) (d := c)
        (by rw [map_eraseIdx, map_eraseIdx, g2]) (by rw [map_eraseIdx, map_eraseIdx]; exact g3.eraseIdx j) (by rw [map_eraseIdx, map_eraseIdx]; exact g4.eraseIdx j)
      rw [hj0] at hj1
      cases hj1
      exact ⟨_, rfl, hst⟩
  · rename_i hf
    cases h
    rcases findKey_ok g3 g4 hf with ⟨_, e2⟩ | ⟨j', u1, u', e, _⟩
    · simp only [e2]
      exact ⟨_, rfl, Stp.refl hI⟩
    · cases e
theorem lenMD_ok (hI : Inv K G C) {m m' : AV} (hm : DV C m m') {v : AV} (h : lenMD C.L m = some v) : lenMF m' C.H = some (v, C.H) ∧ DV C v v := by
  unfold lenMD at h
  rw [Option.map_eq_some_iff] at h
  obtain ⟨es, hes, rfl⟩ := h
  refine ⟨?_, rfl⟩
  rcases entries_ok hI hm hes with ⟨rfl, rfl, rfl⟩ | ⟨q, c, es', rfl, rfl, hB, g1, g2, g3, g4⟩
  · rfl
  · simp only [lenMF, opF, ev, g1]
    have := congrArg List.length g2
    simp only [List.length_map] at this
    rw [this]
end
section
variable {C : Ctx} {K : Id → Prop} {E : DEnv} {T T' : Trie AV}
/-- An operation that calls nobody, on both machines. -/
theorem opD_ok (hI : Inv K E.glob C) (hT : DT C T T') {fl : Nat} {o : AOp} (hk : okOp o = true) {v : AV} {L' : DHeap} (h : opD E fl o T C.L = some (v, L')) :
    ∃ v' m' H', opF o T' C.H = some (v', H') ∧ Stp K E.glob C ⟨L', m', H', C.F⟩ ∧ DV ⟨L', m', H', C.F⟩ v v' := by
  have same : ∀ {r : Option AV} {r' : Option AV}, (∀ w, r = some w → ∃ w', r' = some w' ∧ DV C w w') → r.map (fun v => (v, C.L)) = some (v, L') → opF o T' C.H = r'.map (fun v => (v, C.H)) →
      ∃ v' m' H', opF o T' C.H = some (v', H') ∧ Stp K E.glob C ⟨L', m', H', C.F⟩ ∧ DV ⟨L', m', H', C.F⟩ v v' := by
    intro r r' hr h1 h2
    rw [Option.map_eq_some_iff] at h1
    obtain ⟨w, hw, e⟩ := h1
    obtain ⟨w', e1, e2⟩ := hr w hw
    cases e
    exact ⟨w', C.m, C.H, by rw [h2, e1]; rfl, Stp.refl hI, e2⟩
  have sto : ∀ {r : Option DHeap} {r' : Option AHeap}, (∀ w, r = some w → ∃ w', r' = some w' ∧ Stp K E.glob C ⟨w, C.m, w', C.F⟩) → r.map (fun L => (AV.undef, L)) = some (v, L') → opF o T' C.H = r'.map (fun H => (AV.undef, H)) →
      ∃ v' m' H', opF o T' C.H = some (v', H') ∧ Stp K E.glob C ⟨L', m', H', C.F⟩ ∧ DV ⟨L', m', H', C.F⟩ v v' := by
    intro r r' hr h1 h2
    rw [Option.map_eq_some_iff] at h1
    obtain ⟨w, hw, e⟩ := h1
    obtain ⟨w', e1, e2⟩ := hr w hw
    cases e
    exact ⟨.undef, C.m, w', by rw [h2, e1]; rfl, e2, [], rfl, rfl⟩
  have mp : ∀ {r : Option DHeap} {r' : Option (AV × AHeap)}, (∀ w, r = some w → ∃ w', r' = some (.undef, w') ∧ Stp K E.glob C ⟨w, C.m, w', C.F⟩) → r.map (fun L => (AV.undef, L)) = some (v, L') → opF o T' C.H = r' →
      ∃ v' m' H', opF o T' C.H = some (v', H') ∧ Stp K E.glob C ⟨L', m', H', C.F⟩ ∧ DV ⟨L', m', H', C.F⟩ v v' := by
    intro r r' hr h1 h2
    rw [Option.map_eq_some_iff] at h1
    obtain ⟨w, hw, e⟩ := h1
    obtain ⟨w', e1, e2⟩ := hr w hw
    cases e
    exact ⟨.undef, C.m, w', by rw [h2, e1], e2, [], rfl, rfl⟩
  have ev1 : ∀ {x : X}, okX x = true → DV C (ev T x) (ev T' x) := fun hx => ev_ok hT hx
  have bd : ∀ {x : Option X}, okO x = true → BD C (x.map (ev T)) (x.map (ev T')) := by
    intro x hx
    cases x with
    | none => trivial
    | some x => exact ev1 hx
  cases o with
  | mv x =>
    simp only [opD] at h
    split at h
    · rename_i hn
      cases h
      have : x = .c .nilslc := by
        unfold isNil at hn
        split at hn
        · rfl
        · cases hn
      subst this
      have st := Stp.allocNil hI 0
      refine ⟨.nilslc, C.m, C.H, rfl, st, by simp only [length_halloc]; omega, trivial, fun e rs g h' => ?_⟩
      simp only [hget_halloc, if_true, Option.some.injEq, DBlk.rows.injEq] at h'
      obtain ⟨rfl, rfl, rfl⟩ := h'
      exact ⟨Nat.le_refl _, fun _ => by rw [if_pos ⟨rfl, rfl⟩]; exact .inl rfl⟩
    · cases h
      exact ⟨_, C.m, C.H, rfl, Stp.refl hI, ev1 hk⟩
  | pick c a b =>
    simp only [okOp, Bool.and_eq_true] at hk
    exact same (fun w hw => pickF_ok (ev1 hk.1.1) (ev1 hk.1.2) (ev1 hk.2) hw) h (opF_pick T' C.H c a b)
  | alloc cs =>
    simp only [opD] at h
    cases h
    have st := Stp.alloc hI (.cells cs) (.cells cs 0) fun hD => ⟨cs, 0, by show (C.H.alloc _).get _ = _; rw [AHeap.get_alloc]; exact if_pos rfl, csts_DV _ hk⟩
    refine ⟨_, _, _, opF_alloc T' C.H cs, st, by simp only [length_halloc]; omega, _, _, rfl, fun cs' _ => ⟨(updm_same _ _ _).symm, rfl⟩⟩
  | box x =>
    simp only [opD] at h
    split at h
    · rename_i hok
      cases h
      have hx := ev1 hk
      have st := Stp.alloc hI (.cells (ev T x).cells) (.cells (ev T' x).cells 0) fun hD => ⟨_, 0, by show (C.H.alloc _).get _ = _; rw [AHeap.get_alloc]; exact if_pos rfl, (hx.cells hok).ext hD⟩
      refine ⟨_, _, _, by rw [opF_box, if_pos (hx.okb hok)], st, by simp only [length_halloc]; omega, _, _, rfl, fun cs' _ => ⟨(updm_same _ _ _).symm, rfl⟩⟩
    · cases h
  | build z parts =>
    simp only [okOp, Bool.and_eq_true] at hk
    simp only [opD, Option.map_eq_some_iff] at h
    obtain ⟨cs, hcs, e⟩ := h
    cases e
    obtain ⟨r', h1, h2⟩ := fill_ok hT hk.2 (csts_DV C hk.1) hcs
    exact ⟨.agg r', C.m, C.H, by rw [opF_build, h1]; rfl, Stp.refl hI, r', rfl, h2⟩
  | bslice esz len z parts =>
    simp only [okOp, Bool.and_eq_true] at hk
    simp only [opD, Option.bind_eq_some_iff] at h
    obtain ⟨cs, hcs, h⟩ := h
    obtain ⟨r', h1, h2⟩ := fill_ok hT hk.2 (csts_DV C hk.1) hcs
    obtain ⟨m', h3, h4⟩ := bsliceD_ok hI h2 h
    exact ⟨_, m', _, by rw [opF_bslice, h1]; rfl, h3, h4⟩
  | load n a => exact same (fun w hw => loadD_ok hI (ev1 hk) hw) h (opF_load T' C.H n a)
  | store n a x =>
    simp only [okOp, Bool.and_eq_true] at hk
    exact sto (fun w hw => storeD_ok hI (ev1 hk.1) (ev1 hk.2) hw) h (opF_store T' C.H n a x)
  | nilCheck x =>
    simp only [opD, Option.map_eq_some_iff] at h
    obtain ⟨w, hw, e⟩ := h
    cases e
    obtain ⟨rfl, h2⟩ := nilChk_ok (ev1 hk) hw
    exact ⟨_, C.m, C.H, h2 C.H, Stp.refl hI, ev1 hk⟩
  | bin op x y =>
    simp only [okOp, Bool.and_eq_true] at hk
    exact same (fun w hw => ⟨w, binA_ok (ev1 hk.1) (ev1 hk.2) hw⟩) h (opF_bin T' C.H op x y)
  | cmp neg t x y =>
    simp only [okOp, Bool.and_eq_true] at hk
    simp only [opD, Option.map_eq_some_iff] at h
    obtain ⟨w, hw, e⟩ := h
    cases e
    have := cmpD_ok (ev1 hk.1) (ev1 hk.2) hw
    exact ⟨_, C.m, C.H, by rw [opF_cmp, cmpF, this]; rfl, Stp.refl hI, by cases neg <;> rfl⟩
  | un op x => exact same (fun w hw => ⟨w, unA_ok (ev1 hk) hw⟩) h (opF_un T' C.H op x)
  | conv k x => exact same (fun w hw => ⟨w, convF_ok (ev1 hk) hw⟩) h (opF_conv T' C.H k x)
  | mkIface t x =>
    simp only [opD] at h
    cases h
    exact ⟨_, C.m, C.H, rfl, Stp.refl hI, _, rfl, ev1 hk⟩
  | mkFunc f a b =>
    simp only [okOp, Bool.and_eq_true] at hk
    simp only [opD] at h
    cases h
    exact ⟨_, C.m, C.H, rfl, Stp.refl hI, _, _, rfl, evs_ok hT hk.1, evs_ok hT hk.2⟩
  | mkMap =>
    simp only [opD] at h
    cases h
    have st := Stp.alloc hI (.map [] 0) (.map [] 0) fun hD => ⟨[], by show (C.H.alloc _).get _ = _; rw [AHeap.get_alloc]; exact if_pos rfl, rfl, rfl, rfl⟩
    exact ⟨_, _, _, rfl, st, by simp only [length_halloc]; omega, _, rfl, fun _ _ _ => (updm_same _ _ _).symm⟩
  | mkSlice esz bytes z l c =>
    simp only [okOp, Bool.and_eq_true] at hk
    exact mkSliceD_ok hI hk.1.1 (ev1 hk.1.2) (ev1 hk.2) h
  | slice esz x lo hi mx =>
    simp only [okOp, Bool.and_eq_true] at hk
    exact same (fun w hw => cutD_ok hI (ev1 hk.1.1.1) (bd hk.1.1.2) (bd hk.1.2) (bd hk.2) hw) h (by rw [opF_slice, sliceOp_cut])
  | fieldAddr off x => exact same (fun w hw => addD_ok (ev1 hk) hw) h (opF_fieldAddr T' C.H off x)
  | field off n x => exact same (fun w hw => fieldF_ok (ev1 hk) hw) h (opF_field T' C.H off n x)
  | idxAddr esz x i =>
    simp only [okOp, Bool.and_eq_true] at hk
    exact same (fun w hw => idxD_ok hI (ev1 hk.1) (ev1 hk.2) hw) h (opF_idxAddr T' C.H esz x i)
  | idxAddrA esz len x i =>
    simp only [okOp, Bool.and_eq_true] at hk
    refine same (r' := (match ev T' x, ev T' i with | a, .int _ n => if 0 ≤ n ∧ n < len then addP (n.toNat * esz) a else none | _, _ => none)) (fun w hw => ?_) h ?_
    · have hi := ev1 hk.2
      have hx := ev1 hk.1
      unfold idxAD at hw
      split at hw
      · rename_i kk n hn
        rw [hn] at hi
        have hi : ev T' i = _ := hi
        rw [hi]
        simp only
        split at hw
        · rename_i hc
          rw [if_pos hc]
          exact addD_ok hx hw
        · cases hw
      · cases hw
    · simp only [opF]
      cases ev T' x <;> cases ev T' i <;> simp only [addP, ite_self] <;> first
        | rfl
        | (split <;> rfl)
  | index esz len n x i =>
    simp only [okOp, Bool.and_eq_true] at hk
    refine same (fun w hw => indexV_ok (ev1 hk.1) (ev1 hk.2) hw) h ?_
    simp only [opF, indexV]
    cases ev T' x <;> cases ev T' i <;> first
      | rfl
      | (simp only; split <;> rfl)
  | lookup z kn ag m k ok =>
    simp only [okOp, Bool.and_eq_true] at hk
    simp only [opD, Option.map_eq_some_iff] at h
    obtain ⟨w, hw, e⟩ := h
    cases e
    obtain ⟨v', h1, h2⟩ := lookD_ok hI hk.1.1 (ev1 hk.1.2) (ev1 hk.2) hw
    exact ⟨v', C.m, C.H, h1, Stp.refl hI, h2⟩
  | mapSet kn ag m k x =>
    simp only [okOp, Bool.and_eq_true] at hk
    exact mp (fun w hw => mapSetD_ok hI (ev1 hk.1.1) (ev1 hk.1.2) (ev1 hk.2) hw) h (opF_mapSet kn ag m k x T' C.H)
  | mapEntry z kn ag m k =>
    simp only [okOp, Bool.and_eq_true] at hk
    obtain ⟨v', H', h1, h2, h3⟩ := mapEntryD_ok hI hk.1.1 (ev1 hk.1.2) (ev1 hk.2) h
    exact ⟨v', C.m, H', h1, h2, h3⟩
  | entryStore m s x =>
    simp only [okOp, Bool.and_eq_true] at hk
    exact mp (fun w hw => entryStoreD_ok hI (ev1 hk.1.1) (ev1 hk.1.2) (ev1 hk.2) hw) h (opF_entryStore m s x T' C.H)
  | extract x i => exact same (fun w hw => extF_ok (ev1 hk) hw) h (opF_extract T' C.H x i)
  | typeAssert x t z ok =>
    simp only [okOp, Bool.and_eq_true] at hk
    refine same (fun w hw => assertV_ok (ev1 hk.1) hk.2 hw) h ?_
    simp only [opF, assertV]
    cases ev T' x <;> first
      | rfl
      | (simp only; split <;> rfl)
      | (simp only; split <;> first | rfl | (split <;> rfl))
  | call f args => cases h
  | bad => cases h
  | lenS x =>
    simp only [opD, Option.map_eq_some_iff] at h
    obtain ⟨w, hw, e⟩ := h
    cases e
    exact ⟨_, C.m, C.H, by rw [opF_lenS, (ev1 hk).lenV hw]; rfl, Stp.refl hI, rfl⟩
  | lenT x =>
    simp only [opD] at h
    split at h
    · rename_i s hs
      cases h
      have hx := ev1 hk
      rw [hs] at hx
      have hx : ev T' x = _ := hx
      exact ⟨_, C.m, C.H, by simp only [opF, hx], Stp.refl hI, rfl⟩
    · cases h
  | lenM x =>
    simp only [opD, Option.map_eq_some_iff] at h
    obtain ⟨w, hw, e⟩ := h
    cases e
    obtain ⟨h1, h2⟩ := lenMD_ok hI (ev1 hk) hw
    exact ⟨_, C.m, C.H, h1, Stp.refl hI, h2⟩
  | lenA n =>
    simp only [opD] at h
    cases h
    exact ⟨_, C.m, C.H, rfl, Stp.refl hI, rfl⟩
  | append esz bytes z s x =>
    simp only [okOp, Bool.and_eq_true] at hk
    exact appendD_ok hI (ev1 hk.1) (ev1 hk.2) h
  | copy esz d s =>
    simp only [okOp, Bool.and_eq_true] at hk
    obtain ⟨H', h1, h2, h3⟩ := copyD_ok hI (ev1 hk.1) (ev1 hk.2) h
    exact ⟨v, C.m, H', h1, h2, h3⟩
  | clear z x =>
    simp only [okOp, Bool.and_eq_true] at hk
    exact sto (fun w hw => clearD_ok hI hk.1 (ev1 hk.2) hw) h (opF_clear z x T' C.H)
  | delete kn ag m k =>
    simp only [okOp, Bool.and_eq_true] at hk
    exact mp (fun w hw => deleteD_ok hI (ev1 hk.1) (ev1 hk.2) hw) h (opF_delete kn ag m k T' C.H)
  | mx a b =>
    simp only [okOp, Bool.and_eq_true] at hk
    refine same (fun w hw => ⟨w, mxV_ok (ev1 hk.1) (ev1 hk.2) hw⟩) h ?_
    simp only [opF, mxV]
    cases ev T' a <;> cases ev T' b <;> rfl
  | mn a b =>
    simp only [okOp, Bool.and_eq_true] at hk
    refine same (fun w hw => ⟨w, mnV_ok (ev1 hk.1) (ev1 hk.2) hw⟩) h ?_
    simp only [opF, mnV]
    cases ev T' a <;> cases ev T' b <;> rfl
end
end Go.AI
