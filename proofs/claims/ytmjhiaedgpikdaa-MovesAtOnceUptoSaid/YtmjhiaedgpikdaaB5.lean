/- THE DATA MACHINE, 5: what writes, and what cuts, on both machines. Own work. -/
import Derived.Test.YtmjhiaedgpikdaaB4
import Derived.Test.YtmjhiaedgpikdaaA24
set_option linter.unusedSimpArgs false
set_option linter.unusedVariables false
namespace Go.AI

theorem storeN_ok {H : AHeap} {j : Nat} {cs : List AV} {s o : Nat} {vs : List AV} (hg : H.get (.n j) = some (.cells cs s)) (hle : o + vs.length ≤ cs.length) (h1 : vs.all AV.one = true) :
    H.storeN (.n j) o vs = some (if vs = [] then H else H.setN j (.cells (lay cs o vs) s)) := by
  unfold AHeap.storeN
  by_cases h : vs = []
  · simp [h]
  · rw [if_neg h]
    simp only [hg]
    rw [if_pos (by rw [Bool.and_eq_true]; exact ⟨decide_eq_true hle, h1⟩), if_neg h]
section
variable {C : Ctx} {K : Id → Prop} {G : Nat → Option (List AV)}
/-- A block is written at some of its cells. -/
theorem Stp.write (hI : Inv K G C) {k : Nat} {A B : DBlk} (hk : hget C.L k = some A) (hrA : real A = true) (hc : Compat (C.m k) (C.m k) A B) {cs' : List AV} {s : Nat}
    (hg : C.H.get (C.m k) = some (.cells cs' s)) {o : Nat} {vs : List AV} (hle : o + vs.length ≤ cs'.length) (h1 : vs.all AV.one = true)
    (hB : ∀ D, Ext C D → D.H.get (C.m k) = some (.cells (lay cs' o vs) s) → BRd D (C.m k) B) :
    ∃ H', C.H.storeN (C.m k) o vs = some H' ∧ Stp K G C ⟨hset C.L k B, C.m, H', C.F⟩ := by
  obtain ⟨j, hj⟩ := hI.new k A hk hrA
  have hlt := hget_lt hk
  rw [hj] at hg ⊢
  refine ⟨_, storeN_ok hg hle h1, ?_⟩
  generalize hH : (if vs = [] then C.H else C.H.setN j (.cells (lay cs' o vs) s)) = H'
  have hnext : H'.next = C.H.next := by rw [← hH]; split <;> rfl
  have hget' : H'.get (.n j) = some (.cells (lay cs' o vs) s) := by
    rw [← hH]
    split
    · rename_i e
      subst e
      rw [hg]
      simp [lay]
    · rw [AHeap.get_setN _ _ _ (AHeap.get_lt hg), if_pos rfl]
  have hoth : ∀ i, i ≠ .n j → H'.get i = C.H.get i := by
    intro i hi
    rw [← hH]
    split
    · rfl
    · exact AHeap.get_setN_ne _ _ hi
  refine Stp.one hI k (by simp only [length_hset]; omega) rfl (fun i hi => ⟨by simp only [hget_hset _ _ _ hlt, if_neg hi], rfl⟩) (fun B0 _ h0 => ?_) ?_ (by simp only [hnext]; omega) ?_ ?_
  · have h0 : hget (hset C.L k B) k = some B0 := h0
    rw [hget_hset _ _ _ hlt, if_pos rfl] at h0
    cases h0
    exact ⟨A, hk, hc⟩
  · intro i hi _
    exact hoth i (by rw [← hj]; exact hi k A rfl hk hrA)
  · intro hext B0 h0
    have h0 : hget (hset C.L k B) k = some B0 := h0
    rw [hget_hset _ _ _ hlt, if_pos rfl] at h0
    cases h0
    exact hB _ hext (by show H'.get (C.m k) = _; rw [hj]; exact hget')
  · intro B0 _ _
    exact .inr ⟨rfl, A, hk, hrA⟩

theorem lay_nil {α : Type} (cs : List α) (o : Nat) : lay cs o ([] : List α) = cs := by simp [lay]
theorem real_row {e : Nat} {rs : List (List AV)} {g : Bool} {j : Nat} {r : List AV} (h : rs[j]? = some r) : real (.rows e rs g) = true := by
  cases rs with
  | nil => simp at h
  | cons _ _ => rfl
theorem storeD_ok (hI : Inv K G C) {fl n : Nat} {a x a' x' : AV} (ha : DV C a a') (hx : DV C x x') {L' : DHeap} (h : storeD fl n a x C.L = some L') :
    ∃ H', storeF C.H n a' x' = some H' ∧ Stp K G C ⟨L', C.m, H', C.F⟩ := by
  unfold storeD at h
  split at h
  · rename_i hc
    obtain ⟨h1, h2, h3⟩ := hc
    have hxc := hx.cells h1
    have hlen := hxc.length
    have hone := hxc.oneb h3
    split at h
    · rename_i k off
      split at h
      · rename_i cs hcs
        split at h
        · rename_i hle
          cases h
          obtain ⟨_, i, p, rfl, hc⟩ := ha
          obtain ⟨rfl, rfl⟩ := hc cs hcs
          obtain ⟨cs', s, g1, g2⟩ := hI.blk k _ hcs
          obtain ⟨H', e1, e2⟩ := Stp.write hI hcs rfl (show Compat (C.m k) (C.m k) (.cells cs) (.cells (lay cs p x.cells)) from rfl) g1 (o := p) (vs := x'.cells) (by rw [← hlen, h2, ← g2.length]; exact hle.1) hone
            fun D hD hg => ⟨_, s, hg, (g2.lay p hxc).ext hD⟩
          exact ⟨H', by rw [storeF_ptr, if_pos ⟨hx.okb h1, by rw [← hlen]; exact h2⟩]; exact e1, e2⟩
        · cases h
      · cases h
    · rename_i k ver row off
      split at h
      · rename_i e rs g hB
        split at h
        · rename_i hv
          split at h
          · rename_i r hr
            split at h
            · rename_i hle
              cases h
              obtain ⟨_, i, p, rfl, hc⟩ := ha
              obtain ⟨rfl, rfl⟩ := (hc e rs g hB).2 hv
              have hb := hI.blk k _ hB
              have hre := real_row (e := e) (g := g) hr
              obtain ⟨cs', g1, g2⟩ := hb.2 hre
              have hev := evenB_iff.1 hb.1
              have hrl := hev.get hr
              have hlt := (List.getElem?_eq_some_iff.1 hr).1
              have hnl : (x.cells.map nrm).length = n := by rw [List.length_map]; exact h2
              have hle2 : row * e + off + x'.cells.length ≤ cs'.length := by
                rw [g2.length hev, ← hlen, h2]
                have : (row + 1) * e ≤ rs.length * e := Nat.mul_le_mul_right _ hlt
                rw [Nat.add_mul, Nat.one_mul] at this
                omega
              obtain ⟨H', e1, e2⟩ := Stp.write hI hB hre (B := .rows e (rs.set row (lay r off (x.cells.map nrm))) g) ⟨rfl, .inl ⟨List.length_set, rfl, rfl⟩⟩ g1 (o := row * e + off) (vs := x'.cells) hle2 hone
                fun D hD hg => by
                  refine ⟨evenB_iff.2 (hev.set row ?_), fun _ => ⟨_, hg, ?_⟩⟩
                  · rw [length_lay _ _ _ (by omega)]; exact hrl
                  · rw [DVr_iff, ← flat_set hev hr (by omega)]
                    exact ((DVr_iff.1 g2).lay _ hxc.nrm).ext hD
              exact ⟨H', by rw [storeF_ptr, if_pos ⟨hx.okb h1, by rw [← hlen]; exact h2⟩]; exact e1, e2⟩
            · cases h
          · cases h
        · cases h
      · cases h
    · cases h
  · cases h

/-! ### what a slice tells -/
theorem validB_iff {rs : List (List AV)} {g : Bool} {off len cap : Nat} (h : validB rs g off len cap = true) : off + cap ≤ rs.length ∧ len ≤ cap ∧ (g = true → off + cap = rs.length) := by
  unfold validB at h
  rw [Bool.and_eq_true] at h
  obtain ⟨h1, h2⟩ := h
  have h2 := Nat.le_of_ble_eq_true h2
  split at h1
  · rename_i hg
    have := Nat.eq_of_beq_eq_true h1
    exact ⟨by omega, h2, fun _ => this⟩
  · rename_i hg
    exact ⟨Nat.le_of_ble_eq_true h1, h2, fun hg2 => absurd hg2 hg⟩
theorem even_eq {a b : Nat} {rs : List (List AV)} (h : evenB a rs = true) (k : evenB b rs = true) (hne : rs ≠ []) : a = b := by
  cases rs with
  | nil => exact absurd rfl hne
  | cons r rs =>
    have h1 := evenB_iff.1 h r List.mem_cons_self
    have h2 := evenB_iff.1 k r List.mem_cons_self
    omega
theorem loadN_zero (H : AHeap) (i : Id) (o : Nat) : H.loadN i o 0 = some [] := by simp [AHeap.loadN]
theorem DV.lenV {a a' : AV} (ha : DV C a a') {n : Nat} (h : lenV C.L a = some n) : lenOf a' = some n := by
  cases a <;> first
    | (cases h; done)
    | skip
  · rcases ha with rfl | ⟨i, off, rfl⟩ <;> (cases h; rfl)
  · rename_i i off len cap t
    cases i with
    | o g => exact ha.elim
    | n k =>
      simp only [Go.AI.lenV] at h
      split at h
      · rename_i e rs g h1
        split at h
        · rename_i h2
          obtain rfl : n = len := by cases h; rfl
          obtain ⟨_, _, hc⟩ := ha
          obtain ⟨_, h4⟩ := hc e rs g h1
          have h3 := h4 h2
          clear h4 hc
          obtain ⟨v1, v2, v3⟩ := validB_iff h2
          split at h3
          · rename_i hn
            obtain ⟨hg, hrs⟩ := hn
            rw [hrs] at v1
            simp at v1
            have hz : n = 0 := by omega
            rcases h3 with h3 | ⟨_, _, h3⟩ <;> rw [h3, hz] <;> rfl
          · rw [h3]; rfl
        · cases h
      · cases h
  · rename_i rs
    cases h
    obtain ⟨_, ⟨rfl, rfl | ⟨_, _, _, _, rfl⟩⟩ | ⟨_, _, _, _, _, _, rfl, _⟩⟩ := ha <;> rfl
/-- The rows of a slice, and those that the second machine reads. -/
theorem rowsV_ok (hI : Inv K G C) {x x' : AV} (hx : DV C x x') {rs0 : List (List AV)} (h : rowsV C.L x = some rs0) {esz : Nat} (he : evenB esz rs0 = true) :
    lenOf x' = some rs0.length ∧ ∀ p, p ≤ rs0.length → ∃ nw, rows C.H esz p x' = some nw ∧ DVs C (rs0.take p).flatten nw := by
  cases x <;> first
    | (cases h; done)
    | skip
  · cases h
    refine ⟨?_, fun p hp => ⟨[], ?_, by simp; exact DVs.nil⟩⟩
    · rcases hx with rfl | ⟨i, off, rfl⟩ <;> rfl
    · have : p = 0 := by simpa using hp
      subst this
      rcases hx with rfl | ⟨i, off, rfl⟩ <;> simp [rows, loadN_zero]
  · rename_i i off len cap t
    cases i with
    | o g => exact hx.elim
    | n k =>
      simp only [rowsV] at h
      split at h
      · rename_i e rs g hB
        split at h
        · rename_i hv
          cases h
          obtain ⟨v1, v2, v3⟩ := validB_iff hv
          have hl : ((rs.drop off).take len).length = len := by rw [List.length_take, List.length_drop]; omega
          obtain ⟨_, _, hc⟩ := hx
          have h3 := (hc e rs g hB).2 hv
          split at h3
          · rename_i hn
            obtain ⟨_, rfl⟩ := hn
            simp at v1
            have : len = 0 := by omega
            subst this
            refine ⟨by rcases h3 with rfl | ⟨_, _, rfl⟩ <;> rfl, fun p hp => ⟨[], ?_, by simp; exact DVs.nil⟩⟩
            have : p = 0 := by simpa using hp
            subst this
            rcases h3 with rfl | ⟨_, _, rfl⟩ <;> simp [rows, loadN_zero]
          · rename_i hn
            subst h3
            refine ⟨by rw [hl]; rfl, fun p hp => ?_⟩
            rw [hl] at hp
            by_cases hp0 : p = 0
            · subst hp0
              exact ⟨[], by simp [rows, loadN_zero], by simp; exact DVs.nil⟩
            · have hre : real (.rows e rs g) = true := by
                cases rs with
                | nil => simp at v1; omega
                | cons _ _ => rfl
              obtain ⟨hev, hb⟩ := hI.blk k _ hB
              obtain ⟨cs', g1, g2⟩ := hb hre
              have hee : e = esz := by
                refine even_eq (rs := (rs.drop off).take len) (evenB_iff.2 (((evenB_iff.1 hev).drop _).take _)) he ?_
                intro e0
                rw [e0] at hl
                simp at hl
                omega
              subst hee
              have hs := flat_seg (evenB_iff.1 hev) (a := off) (n := p) (by omega)
              obtain ⟨nw, e1, e2⟩ := (DVr_iff.1 g2).seg hs
              refine ⟨nw, ?_, ?_⟩
              · show C.H.loadN (C.m k) (off * e) (p * e) = some nw
                exact loadN_cells g1 e1
              · rw [List.take_take, Nat.min_eq_left hp]
                exact e2
        · cases h
      · cases h
  · rename_i rs
    cases h
    obtain ⟨hp, ⟨rfl, rfl | ⟨_, _, _, _, rfl⟩⟩ | ⟨esz0, i, off, cap, t, cs', rfl, h2, h3, h4, h5, h6⟩⟩ := hx
    · refine ⟨rfl, fun p hp => ⟨[], ?_, by simp; exact DVs.nil⟩⟩
      have : p = 0 := by simpa using hp
      subst this
      rfl
    · refine ⟨rfl, fun p hp => ⟨[], ?_, by simp; exact DVs.nil⟩⟩
      have : p = 0 := by simpa using hp
      subst this
      simp [rows, loadN_zero]
    · refine ⟨rfl, fun p hp => ?_⟩
      by_cases hn : rs0 = []
      · subst hn
        have : p = 0 := by simpa using hp
        subst this
        exact ⟨[], by simp [rows, loadN_zero], by simp; exact DVs.nil⟩
      · have hee : esz0 = esz := even_eq h4 he hn
        subst hee
        have := loadN_part (p := 0) (m := p * esz0) h5 (by rw [Nat.zero_add]; exact Nat.mul_le_mul_right _ hp)
        refine ⟨(cs'.drop 0).take (p * esz0), by simpa [rows] using this, ?_⟩
        rw [← flat_take p (evenB_iff.1 he), List.drop_zero]
        exact (DVr_iff.1 h6).take _
theorem Even.mapNrm {n : Nat} {rs : List (List AV)} (h : Even n rs) : Even n (rs.map (·.map nrm)) := by
  intro r hr
  obtain ⟨x, hx, rfl⟩ := List.mem_map.1 hr
  rw [List.length_map]
  exact h x hx
theorem even_unNrm {n : Nat} {rs : List (List AV)} (h : evenB n (rs.map (·.map nrm)) = true) : evenB n rs = true := by
  rw [evenB_iff] at h ⊢
  intro r hr
  have := h (r.map nrm) (List.mem_map.2 ⟨r, hr, rfl⟩)
  rwa [List.length_map] at this
theorem flat_nrm (rs : List (List AV)) : (rs.map (·.map nrm)).flatten = rs.flatten.map nrm := by
  induction rs with
  | nil => rfl
  | cons r rs ih => rw [List.map_cons, List.flatten_cons, List.flatten_cons, List.map_append, ih]
theorem all_nrm (l : List AV) : (l.map nrm).all AV.one = l.all AV.one := by
  induction l with
  | nil => rfl
  | cons a l ih => simp only [List.map_cons, List.all_cons, ih, nrm_one]
theorem roomB_iff {n b : Nat} : roomB n b = true ↔ n * b ≤ reachB ∧ n ≤ reachB := by
  unfold roomB
  rw [Bool.and_eq_true]
  exact ⟨fun h => ⟨Nat.le_of_ble_eq_true h.1, Nat.le_of_ble_eq_true h.2⟩, fun h => ⟨Nat.ble_eq_true_of_le h.1, Nat.ble_eq_true_of_le h.2⟩⟩

theorem slc_new {D : Ctx} {k : Nat} {e : Nat} {rs : List (List AV)} {g : Bool} (h : hget D.L k = some (.rows e rs g)) {off len cap : Nat} {t : Bool} (hcap : off + cap ≤ rs.length) (hne : rs ≠ [] ∨ g = false) {j : Id} (hj : D.m k = j) :
    DV D (.slc (.n k) off len cap t) (.slc j (off * e) len cap t) := by
  refine ⟨hget_lt h, trivial, fun e' rs' g' h' => ?_⟩
  rw [h] at h'
  cases h'
  refine ⟨hcap, fun _ => ?_⟩
  rw [if_neg (by rintro ⟨h1, h2⟩; rcases hne with h | h; exact h h2; rw [h] at h1; cases h1), hj]

theorem appendD_ok (hI : Inv K G C) {fl esz bytes : Nat} {s x s' x' : AV} (hs : DV C s s') (hx : DV C x x') {v : AV} {L' : DHeap} (h : appendD fl esz bytes C.L s x = some (v, L')) :
    ∃ v' m' H', appendOp esz bytes C.H s' x' = some (v', H') ∧ Stp K G C ⟨L', m', H', C.F⟩ ∧ DV ⟨L', m', H', C.F⟩ v v' := by
  unfold appendD at h
  split at h
  · cases h
  rename_i new0 hnew
  simp only at h
  split at h
  case isFalse => cases h
  rename_i hcond
  rw [Bool.and_eq_true] at hcond
  obtain ⟨hev, hone⟩ := hcond
  have hev0 := even_unNrm hev
  obtain ⟨r1, r2⟩ := rowsV_ok hI hx hnew hev0
  obtain ⟨nw, r3, r4⟩ := r2 new0.length (Nat.le_refl _)
  rw [List.take_length] at r4
  have hn1 : nw.all AV.one = true := by
    refine r4.oneb ?_
    rw [oneR_iff, flat_nrm, all_nrm] at hone
    exact hone
  have r5 : DVs C (new0.map (·.map nrm)).flatten nw := by rw [flat_nrm]; exact r4.nrm
  have hE := evenB_iff.1 hev
  have hnl : (new0.map (·.map nrm)).length = new0.length := List.length_map _
  generalize hnn : new0.map (·.map nrm) = new at *
  have hnwl : nw.length = new0.length * esz := by rw [← r5.length, flat_length hE, hnl]
  have hap : appendOp esz bytes C.H s' x' = match s' with
        | .nilslc =>
          if new0.length = 0 then some (.nilslc, C.H)
          else if new0.length * bytes ≤ reachB ∧ new0.length ≤ reachB then some (.slc (.n C.H.next) 0 new0.length new0.length true, C.H.alloc (.cells nw esz)) else none
        | .slc i off len cap tail =>
          if len + new0.length ≤ cap then
            match C.H.storeN i (off + len * esz) nw with
            | some H' => some (.slc i off (len + new0.length) cap tail, H')
            | none => none
          else if (len + new0.length) * bytes ≤ reachB ∧ len + new0.length ≤ reachB then
            match C.H.loadN i off (len * esz) with
            | some old => growOp esz C.H i off len cap tail new0.length old nw
            | none => none
          else none
        | _ => none := by
    unfold appendOp
    simp only [r1, r3, hn1, if_true]
    cases s' <;> rfl
  rw [hap]
  clear hap
  -- a new block for what is appended to nothing
  have fresh : ∀ (old : List (List AV)) (ow : List AV), Even esz old → DVs C old.flatten ow → new0.length ≠ 0 →
      Stp K G C ⟨halloc C.L (.rows esz (old ++ new) true), updm C.m C.L.length (.n C.H.next), C.H.alloc (.cells (ow ++ nw) esz), C.F⟩ ∧
      DV ⟨halloc C.L (.rows esz (old ++ new) true), updm C.m C.L.length (.n C.H.next), C.H.alloc (.cells (ow ++ nw) esz), C.F⟩ (.slc (.n C.L.length) 0 (old.length + new0.length) (old.length + new0.length) true) (.slc (.n C.H.next) 0 (old.length + new0.length) (old.length + new0.length) true) := by
    intro old ow ho hd hne
    refine ⟨Stp.alloc hI _ _ fun hD => ⟨evenB_iff.2 (ho.append hE), fun _ => ⟨ow ++ nw, ?_, ?_⟩⟩, ?_⟩
    · show (C.H.alloc _).get _ = _
      rw [AHeap.get_alloc, if_pos rfl]
      rfl
    · rw [DVr_iff, List.flatten_append]
      exact (hd.append r5).ext hD
    · have := slc_new (D := ⟨halloc C.L (.rows esz (old ++ new) true), updm C.m C.L.length (.n C.H.next), C.H.alloc (.cells (ow ++ nw) esz), C.F⟩) (k := C.L.length) (e := esz) (rs := old ++ new) (g := true) (by simp only [hget_halloc, if_true]) (off := 0) (len := old.length + new0.length) (cap := old.length + new0.length) (t := true) (by rw [List.length_append, hnl]; omega) (.inl (by intro e; apply hne; have := congrArg List.length e; rw [List.length_append, hnl, List.length_nil] at this; omega)) (updm_same _ _ _)
      rw [Nat.zero_mul] at this
      exact this
  split at h
  · -- nil
    split at h
    · rename_i h0
      cases h
      rcases hs with rfl | ⟨i, off, rfl⟩
      · exact ⟨.nilslc, C.m, C.H, by simp only [h0, if_true], Stp.refl hI, .inl rfl⟩
      · have : nw = [] := List.eq_nil_of_length_eq_zero (by rw [hnwl, h0]; simp)
        subst this
        exact ⟨.slc i off 0 0 false, C.m, C.H, by simp [h0, AHeap.storeN], Stp.refl hI, .inr ⟨i, off, rfl⟩⟩
    · rename_i h0
      split at h
      · rename_i hroom
        cases h
        obtain ⟨b1, b2⟩ := roomB_iff.1 hroom
        obtain ⟨f1, f2⟩ := fresh [] [] (Even.nil _) DVs.nil h0
        simp only [List.nil_append, List.length_nil, Nat.zero_add] at f1 f2
        rcases hs with rfl | ⟨i, off, rfl⟩
        · exact ⟨_, _, _, by simp only [h0, b1, b2, and_self, if_true, if_false], f1, f2⟩
        · refine ⟨_, _, _, ?_, f1, f2⟩
          simp only [Nat.zero_add, Nat.le_zero_eq, h0, b1, b2, and_self, if_true, if_false, Nat.zero_mul, loadN_zero, growOp, Bool.false_eq_true, List.nil_append]
      · cases h
  · rename_i k off len cap tail
    split at h
    case h_2 => cases h
    rename_i e rs g hB
    split at h
    case isFalse => cases h
    rename_i hv
    obtain ⟨v1, v2, v3⟩ := validB_iff hv
    have hs0 := hs
    obtain ⟨hk, _, hc⟩ := hs
    have hs' := (hc e rs g hB).2 hv
    by_cases hnil : g = true ∧ rs = []
    · -- a list that is still empty
      rw [if_pos hnil] at hs'
      obtain ⟨hg, hrs⟩ := hnil
      have hz : off = 0 ∧ cap = 0 ∧ len = 0 := by rw [hrs] at v1; simp at v1; omega
      obtain ⟨rfl, rfl, rfl⟩ := hz
      split at h
      · rename_i h0
        have h0 : new0.length = 0 := by omega
        split at h
        · simp only [h0, if_true] at h
          cases h
          rcases hs' with rfl | ⟨i, off, rfl⟩
          · exact ⟨.nilslc, C.m, C.H, by simp only [h0, if_true], Stp.refl hI, hs0⟩
          · have : nw = [] := List.eq_nil_of_length_eq_zero (by rw [hnwl, h0]; simp)
            subst this
            exact ⟨.slc i off 0 0 false, C.m, C.H, by simp [h0, AHeap.storeN], Stp.refl hI, hs0⟩
        · cases h
      · rename_i h0
        have h0 : new0.length ≠ 0 := by omega
        split at h
        · rename_i hroom
          rw [Nat.zero_add] at hroom
          obtain ⟨b1, b2⟩ := roomB_iff.1 hroom.1
          split at h
          · split at h
            · cases h
              subst hrs
              subst hg
              simp only [List.drop_nil, List.take_nil, List.nil_append, Nat.zero_add]
              refine ⟨.slc (.n C.H.next) 0 new0.length new0.length true, _, _, (by rcases hs' with rfl | ⟨i0, o0, rfl⟩ <;> simp only [Nat.zero_add, Nat.le_zero_eq, h0, b1, b2, and_self, if_true, if_false, Nat.zero_mul, loadN_zero, growOp, Bool.false_eq_true, List.nil_append]), Stp.grow hI hB (by rw [hnl]; simp; omega) C.H (.cells nw esz) (.inl ⟨rfl, rfl⟩) fun hD => ⟨hev, fun _ => ⟨nw, ?_, ?_⟩⟩, ?_⟩
              · show (C.H.alloc _).get _ = _
                rw [AHeap.get_alloc, if_pos rfl]
                rfl
              · rw [DVr_iff]
                exact r5.ext hD
              · have := slc_new (D := ⟨hset C.L k (.rows esz new true), updm C.m k (.n C.H.next), C.H.alloc (.cells nw esz), C.F⟩) (k := k) (e := esz) (rs := new) (g := true) (by simp only [hget_hset _ _ _ hk, if_true]) (off := 0) (len := new0.length) (cap := new0.length) (t := true) (by omega) (.inl (by intro e; rw [e] at hnl; simp at hnl; omega)) (updm_same _ _ _)
                rw [Nat.zero_mul] at this
                exact this
            · cases h
          · cases h
            subst hrs
            obtain ⟨f1, f2⟩ := fresh [] [] (Even.nil _) DVs.nil h0
            simp only [List.drop_nil, List.take_nil, List.nil_append, Nat.zero_add, List.length_nil] at f1 f2 ⊢
            exact ⟨.slc (.n C.H.next) 0 new0.length new0.length true, _, _, (by rcases hs' with rfl | ⟨i0, o0, rfl⟩ <;> simp only [Nat.zero_add, Nat.le_zero_eq, h0, b1, b2, and_self, if_true, if_false, Nat.zero_mul, loadN_zero, growOp, Bool.false_eq_true, List.nil_append]), f1, f2⟩
        · cases h
    · rw [if_neg hnil] at hs'
      subst hs'
      have hb := hI.blk k _ hB
      have hre : real (.rows e rs g) = true := by
        cases rs with
        | cons _ _ => rfl
        | nil => cases g with
          | false => rfl
          | true => exact absurd ⟨rfl, rfl⟩ hnil
      obtain ⟨cs', g1, g2⟩ := hb.2 hre
      have hevr := evenB_iff.1 hb.1
      have hcl := g2.length hevr
      split at h
      · rename_i hfit
        split at h
        · rename_i hc2
          cases h
          by_cases h0 : new0.length = 0
          · have : nw = [] := List.eq_nil_of_length_eq_zero (by rw [hnwl, h0]; simp)
            subst this
            have hL : (if new0.length = 0 then C.L else hset C.L k (.rows e (lay rs (off + len) new) g)) = C.L := if_pos h0
            rw [hL, h0, Nat.add_zero]
            refine ⟨_, C.m, C.H, ?_, Stp.refl hI, hs0⟩
            simp only [h0, Nat.add_zero, v2, if_true, AHeap.storeN]
          · obtain ⟨he, hpf⟩ := hc2
            have he : e = esz := he.resolve_right h0
            subst he
            have hL : (if new0.length = 0 then C.L else hset C.L k (.rows e (lay rs (off + len) new) g)) = hset C.L k (.rows e (lay rs (off + len) new) g) := if_neg h0
            rw [hL]
            have hnw : nw.length = new.length * e := by rw [hnwl, hnl]
            obtain ⟨H', e1, e2⟩ := Stp.write hI hB hre (B := .rows e (lay rs (off + len) new) g) ⟨rfl, .inl ⟨length_lay _ _ _ (by omega), rfl, rfl⟩⟩ g1 (o := (off + len) * e) (vs := nw) (by
                rw [hnw, hcl, ← Nat.add_mul]
                exact Nat.mul_le_mul_right _ (by omega)) hn1 fun D hD hg => by
                  refine ⟨evenB_iff.2 (((hevr.take _).append hE).append (hevr.drop _)), fun _ => ⟨_, hg, ?_⟩⟩
                  rw [DVr_iff, ← flat_lay hevr hE]
                  exact ((DVr_iff.1 g2).lay _ r5).ext hD
            refine ⟨.slc (C.m k) (off * e) (len + new0.length) cap tail, C.m, H', ?_, e2, ?_⟩
            · simp only [hfit, if_true]
              rw [← Nat.add_mul, e1]
            · refine slc_new (D := ⟨hset C.L k (.rows e (lay rs (off + len) new) g), C.m, H', C.F⟩) (k := k) (e := e) (rs := lay rs (off + len) new) (g := g) (by simp only [hget_hset _ _ _ hk, if_true]) (by rw [length_lay _ _ _ (by omega)]; exact v1) ?_ rfl
              refine .inl ?_
              intro e0
              have := congrArg List.length e0
              rw [length_lay _ _ _ (by omega), List.length_nil] at this
              omega
        · cases h
      · rename_i hfit
        split at h
        · rename_i hroom
          obtain ⟨hroom, he⟩ := hroom
          obtain ⟨b1, b2⟩ := roomB_iff.1 hroom
          have h0 : new0.length ≠ 0 := by omega
          have hold : ∃ ow, C.H.loadN (C.m k) (off * e) (len * esz) = some ow ∧ DVs C ((rs.drop off).take len).flatten ow ∧ Even esz ((rs.drop off).take len) := by
            rcases he with he | he
            · have hl0 : len = 0 := by rw [he] at v1; simp at v1; omega
              subst hl0
              exact ⟨[], by rw [Nat.zero_mul, loadN_zero], by simp; exact DVs.nil, by simp; exact Even.nil _⟩
            · subst he
              have hsg := flat_seg hevr (a := off) (n := len) (by omega)
              obtain ⟨ow, e1, e2⟩ := (DVr_iff.1 g2).seg hsg
              exact ⟨ow, loadN_cells g1 e1, e2, (hevr.drop _).take _⟩
          obtain ⟨ow, o1, o2, o3⟩ := hold
          have hol : ((rs.drop off).take len).length = len := by rw [List.length_take, List.length_drop]; omega
          split at h
          · rename_i ht
            subst ht
            split at h
            · rename_i hgp
              obtain ⟨hg, _⟩ := hgp
              subst hg
              obtain ⟨j, hj⟩ := hI.new k _ hB hre
              have hrs : rs ≠ [] := fun e => hnil ⟨rfl, e⟩
              have he : e = esz := he.resolve_left hrs
              subst he
              have hgr : growOp e C.H (C.m k) (off * e) len cap true new0.length ow nw = some (.slc (.n C.H.next) 0 (len + new0.length) (len + new0.length) true, (C.H.kill j).alloc (.cells (ow ++ nw) e)) := by
                unfold growOp
                rw [hj] at g1 ⊢
                simp only [g1, if_true]
                have hcc : off * e + cap * e = cs'.length := by rw [hcl, ← Nat.add_mul, v3 rfl]
                first
                  | rw [if_pos hcc]
                  | rw [if_pos ⟨trivial, hcc⟩]
                  | rw [if_pos ⟨rfl, hcc⟩]
              split at h
              · rename_i hoff
                subst hoff
                cases h
                rw [List.drop_zero] at o2 o3 hol
                refine ⟨_, _, _, by simp only [hfit, b1, b2, and_self, if_true, if_false, o1]; exact hgr, Stp.grow hI hB (by rw [List.length_append, hol, hnl]; have := v3 rfl; omega) (C.H.kill j) (.cells (ow ++ nw) e) (.inr ⟨j, hj, rfl, hrs⟩) fun hD => ⟨evenB_iff.2 (o3.append hE), fun _ => ⟨ow ++ nw, ?_, ?_⟩⟩, ?_⟩
                · show ((C.H.kill j).alloc _).get _ = _
                  rw [AHeap.get_alloc]
                  exact if_pos rfl
                · rw [DVr_iff, List.flatten_append]
                  exact (o2.append r5).ext hD
                · have := slc_new (D := ⟨hset C.L k (.rows e (rs.take len ++ new) true), updm C.m k (.n C.H.next), (C.H.kill j).alloc (.cells (ow ++ nw) e), C.F⟩) (k := k) (e := e) (rs := rs.take len ++ new) (g := true) (by simp only [hget_hset _ _ _ hk, if_true]) (off := 0) (len := len + new0.length) (cap := len + new0.length) (t := true) (by rw [List.length_append, hol, hnl]; omega) (.inl (by intro e; have := congrArg List.length e; rw [List.length_append, hol, hnl, List.length_nil] at this; omega)) (updm_same _ _ _)
                  rw [Nat.zero_mul] at this
                  exact this
              · rename_i hoff
                cases h
                have s1 := Stp.kill hI hB hre hj
                have o2' := o2.ext s1.ext
                have r5' := r5.ext s1.ext
                have hll : (hkill C.L k).length = C.L.length := length_hkill _ _
                have s2 := Stp.alloc s1.inv (.rows e ((rs.drop off).take len ++ new) true) (.cells (ow ++ nw) e) fun hD => ⟨evenB_iff.2 (o3.append hE), fun _ => ⟨ow ++ nw, by show ((C.H.kill j).alloc _).get _ = _; rw [AHeap.get_alloc]; exact if_pos rfl, by rw [DVr_iff, List.flatten_append]; exact (o2'.append r5').ext hD⟩⟩
                refine ⟨_, _, _, by simp only [hfit, b1, b2, and_self, if_true, if_false, o1]; exact hgr, s1.trans s2, ?_⟩
                have := slc_new (D := ⟨halloc (hkill C.L k) (.rows e ((rs.drop off).take len ++ new) true), updm C.m (hkill C.L k).length (.n (C.H.kill j).next), (C.H.kill j).alloc (.cells (ow ++ nw) e), C.F⟩) (k := C.L.length) (e := e) (rs := (rs.drop off).take len ++ new) (g := true) (by simp only [hget_halloc, hll, if_true]) (off := 0) (len := len + new0.length) (cap := len + new0.length) (t := true) (by rw [List.length_append, hol, hnl]; omega) (.inl (by intro e; have := congrArg List.length e; rw [List.length_append, hol, hnl, List.length_nil] at this; omega)) (j := .n C.H.next) (by show updm C.m (hkill C.L k).length _ _ = _; rw [hll]; exact updm_same _ _ _)
                rw [Nat.zero_mul] at this
                exact this
            · cases h
          · rename_i ht
            have ht : tail = false := by simpa using ht
            subst ht
            cases h
            obtain ⟨f1, f2⟩ := fresh _ ow o3 o2 h0
            rw [hol] at f2
            exact ⟨_, _, _, by simp only [hfit, b1, b2, and_self, if_true, if_false, o1, growOp, Bool.false_eq_true], f1, f2⟩
        · cases h
  · cases h
end
end Go.AI
