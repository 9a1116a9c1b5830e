/-
  EACH OPERATION OF THE RECKONING is one of the model's: append, copy.
-/
import Derived.Test.YtldjfokgfapkiaaGreatDoorAbSim4
namespace Go.Ab

section
variable {P : Program} {B : Nat} {ρ : Nat → Int} {φ : PM} {en : Env}

theorem loadCells_at {w : World} {b off k : Nat} {C : Array Value} {T : Nat} {fz : Nat × Nat} (hx : w.heap[b]? = some (.cells C T fz)) (h : off + k ≤ C.size) :
    (loadCells ⟨b, off, none⟩ k).run P w = .ok (C.extract off (off + k)) w := by
  have hl : (C.extract off (off + k)).toList.length = k := by simp; omega
  have := run_loadCells_list (P := P) w ⟨b, off, none⟩ (C.extract off (off + k)).toList (fun j v hv => by
    simp only [Array.toList_extract, List.extract_eq_take_drop, List.getElem?_take, List.getElem?_drop, Array.getElem?_toList] at hv
    split at hv
    · rw [addr_add]; simp [World.cell?, hx, hv]
    · simp at hv)
  rw [hl, Array.toArray_toList] at this
  exact this

/-- The cells of a row that lies there. -/
theorem row_at {s s1 : St} {l b N : Nat} {o : AObj} {w : World} (h1 : rd l s = some (o, s1)) (hφ : φ l = some (b, N)) (hH : HRel B ρ φ s.H.get w) :
    s1.H = s.H ∧ s1.n = s.n ∧ ∀ ro gr el cs, o = .cells ro gr el cs → ∃ C T fz, w.heap[b]? = some (.cells C T fz) ∧ C.size = N ∧ (gr = false → cs.length = N) ∧ cs.length ≤ N ∧
      VRels ρ φ cs (C.toList.take cs.length) ∧ (ro = false → fz = (0, 0)) ∧ (ro = false → T = el) := by
  obtain ⟨ho, ha, hs1, hn1⟩ := rd_spec h1
  refine ⟨hs1, hn1, fun ro gr el cs he => ?_⟩
  subst he
  obtain ⟨b2, N2, x, g1, g2, g3, g4⟩ := hH.at_ l _ ho ha
  rw [hφ] at g1
  simp only [Option.some.injEq, Prod.mk.injEq] at g1
  obtain ⟨rfl, rfl⟩ := g1
  cases x <;> simp only [ORel] at g3
  rename_i C T fz
  obtain ⟨q1, q2, q3, q4, q5, q6⟩ := g3
  exact ⟨C, T, fz, g2, q2, q3, q4, q5, q6, q1⟩

theorem seg_rel {cs : List AV} {C : Array Value} (hC : VRels ρ φ cs (C.toList.take cs.length)) {off k : Nat} (h : off + k ≤ cs.length) :
    VRels ρ φ ((cs.drop off).take k) (C.extract off (off + k)).toList := by
  have h2 := (hC.drop off).take k
  have e : (C.extract off (off + k)).toList = List.take k (List.drop off (List.take cs.length C.toList)) := by
    rw [Array.toList_extract]
    apply List.ext_getElem?
    intro j
    simp only [List.extract_eq_take_drop, List.getElem?_take, List.getElem?_drop]
    by_cases hj : j < k
    · simp only [hj, if_true, show j < off + k - off by omega, show off + j < cs.length by omega]
    · simp only [hj, if_false, show ¬ j < off + k - off by omega]
  rw [e]; exact h2

theorem cells_run {size n : Nat} {x : AV} {u : Value} (hx : VRel ρ φ x u) {s s' : St} {cs : List AV} (h : aCells size n x s = some (cs, s')) {w : World} (hH : HRel B ρ φ s.H.get w) :
    s'.H = s.H ∧ s'.n = s.n ∧ ∃ C, (∀ w' : World, w'.heap = w.heap → (Builtin.firstCells size n u).run P w' = .ok C w') ∧ VRels ρ φ cs C.toList ∧ cs.length = n * size := by
  unfold aCells at h
  split at h
  · cases hx
    cases n with
    | zero => obtain ⟨rfl, rfl⟩ := pure_spec h; exact ⟨rfl, rfl, #[], fun _ _ => rfl, .nil, by simp⟩
    | succ n => exact (fail_spec h).elim
  · rename_i l off len cap
    cases hx with
    | slice _ _ _ _ b N hφ =>
      obtain ⟨o, s1, h1, h2⟩ := bind_spec h
      obtain ⟨hs1, hn1, hrow⟩ := row_at h1 hφ hH
      split at h2
      · rename_i ro gr el cs0
        obtain ⟨C, T, fz, g2, q2, q3, q4, q5, q6, q7⟩ := hrow _ _ _ _ rfl
        cases hc : (Nat.ble n len && Nat.ble (off + n * size) cs0.length) <;> rw [hc] at h2
        · exact (fail_spec h2).elim
        · obtain ⟨rfl, rfl⟩ := pure_spec h2
          simp only [Bool.and_eq_true] at hc
          have e2 := Nat.le_of_ble_eq_true hc.2
          refine ⟨hs1, hn1, _, fun w' hw' => ?_, seg_rel q5 e2, by simp; omega⟩
          simp only [Builtin.firstCells]
          exact loadCells_at (by rw [hw']; exact g2) (by omega)
      · exact (fail_spec h2).elim
  · rename_i l off len sz
    cases hx with
    | gslice _ _ _ _ b N c hφ r1 r2 r3 =>
      obtain ⟨o, s1, h1, h2⟩ := bind_spec h
      obtain ⟨hs1, hn1, hrow⟩ := row_at h1 hφ hH
      split at h2
      · rename_i ro gr el cs0
        obtain ⟨C, T, fz, g2, q2, q3, q4, q5, q6, q7⟩ := hrow _ _ _ _ rfl
        cases hc : (Nat.ble n len && Nat.ble (off + n * size) cs0.length) <;> rw [hc] at h2
        · exact (fail_spec h2).elim
        · obtain ⟨rfl, rfl⟩ := pure_spec h2
          simp only [Bool.and_eq_true] at hc
          have e2 := Nat.le_of_ble_eq_true hc.2
          refine ⟨hs1, hn1, _, fun w' hw' => ?_, seg_rel q5 e2, by simp; omega⟩
          simp only [Builtin.firstCells]
          exact loadCells_at (by rw [hw']; exact g2) (by omega)
      · exact (fail_spec h2).elim
  · exact (fail_spec h).elim

theorem lenAV_rel {x : AV} {u : Value} {n : Nat} (hx : VRel ρ φ x u) (h : lenAV x = some n) : ∃ a c, u = .slice a n c := by
  cases hx <;> simp [lenAV] at h <;> subst h <;> exact ⟨_, _, rfl⟩

theorem isIntT_spec {u : Nat} (h : isIntT P (some u) = false) : ∃ d, P.underlying u = some d ∧ ∀ k, d ≠ .int k := by
  simp only [isIntT] at h
  cases hd : P.underlying u with
  | none => rw [hd] at h; simp at h
  | some d =>
    rw [hd] at h
    refine ⟨d, rfl, fun k e => ?_⟩
    subst e
    simp at h

theorem growBy_le (m : Nat) : ∀ r c, Builtin.growBy m r c ≤ (c + 768) * 2 ^ r := by
  intro r
  induction r with
  | zero => intro c; simp [Builtin.growBy]
  | succ r ih =>
    intro c
    simp only [Builtin.growBy]
    have h2 : 1 ≤ 2 ^ r := Nat.one_le_two_pow
    split
    · calc c ≤ (c + 768) * 1 := by omega
        _ ≤ (c + 768) * 2 ^ (r + 1) := Nat.mul_le_mul_left _ (Nat.one_le_two_pow)
    · refine Nat.le_trans (ih _) ?_
      rw [Nat.pow_succ, Nat.mul_comm (2 ^ r) 2, ← Nat.mul_assoc]
      exact Nat.mul_le_mul_right _ (by omega)
theorem growBy4_le (m c : Nat) : Builtin.growBy m 4 c ≤ (c + 768) * 16 := growBy_le m 4 c
theorem nextcap_le {m c : Nat} (hm : m ≤ 100000) (hc : c ≤ 100000) : Builtin.nextslicecap m c ≤ 2000000 := by
  unfold Builtin.nextslicecap
  split
  · omega
  · split
    · omega
    · exact Nat.le_trans (growBy4_le m c) (by omega)

/-- append's run where there is room. -/
theorem append_room {ts : Array TypeId} {t t2 u el m n sCap : Nat} {i : TypeInfo} {base : Option Addr} {x : Value} {new : Array Value} {w : World}
    (h0 : ts[0]? = some t) (hu : P.underlying t = some (.slice el)) (h1 : ts[1]? = some u) (hint : isIntT P (some u) = false) (hi : P.info? el = some i)
    (hl : ∃ a c, x = .slice a n c) (hnew : (Builtin.firstCells i.size n x).run P w = .ok new w) (hroom : m + n ≤ sCap) :
    (Builtin.append_ ts t2 #[.slice base m sCap, x]).run P w = match base with
      | none => .ok (.slice none (m + n) sCap) w
      | some a => ((storeCells (a.add (m * i.size)) new.toList).run P w).andThen fun _ w' => .ok (.slice (some a) (m + n) sCap) w' := by
  obtain ⟨xa, xc, rfl⟩ := hl
  have hsz : szOf P el = some i.size := by simp [szOf, hi]
  have e0 : (#[Value.slice base m sCap, Value.slice xa n xc] : Array Value)[0]? = some (.slice base m sCap) := rfl
  have e1 : (#[Value.slice base m sCap, Value.slice xa n xc] : Array Value)[1]? = some (.slice xa n xc) := rfl
  obtain ⟨d, hd, hdi⟩ := isIntT_spec hint
  unfold Builtin.append_
  simp only [h0, e0, e1, Sem.run_bind, under_run hu, Result.andThen_ok, szOf_run hsz, h1, under_run hd]
  cases d
  case int k => exact absurd rfl (hdi k)
  all_goals
    simp only [Sem.run_bind, Result.andThen_ok, Sem.run_ite, Bool.false_eq_true, if_false, Builtin.lenOf, Sem.run_pure, hroom, if_true, Bool.not_false, hnew]
    cases base <;> simp only [Sem.run_bind, Sem.run_pure]

/-- append's run where there is none. -/
theorem append_grow {ts : Array TypeId} {t t2 u el m n sCap : Nat} {i : TypeInfo} {base : Option Addr} {x zu : Value} {old new : Array Value} {w : World}
    (h0 : ts[0]? = some t) (hu : P.underlying t = some (.slice el)) (h1 : ts[1]? = some u) (hint : isIntT P (some u) = false) (hi : P.info? el = some i)
    (hl : ∃ a c, x = .slice a n c) (hold : (Builtin.firstCells i.size m (.slice base m sCap)).run P w.drew = .ok old w.drew) (hnew : (Builtin.firstCells i.size n x).run P w.drew = .ok new w.drew)
    (hz : ∀ w, (zeroValue el).run P w = .ok zu w) (hroom : ¬ m + n ≤ sCap) (hb : i.bytes ≤ 10000) (hb1 : i.bytes ≠ 0) (hneed : m + n ≤ 100000) (hcap : sCap ≤ 100000) :
    ∃ newCap, m + n ≤ newCap ∧ (Builtin.append_ ts t2 #[.slice base m sCap, x]).run P w =
      .ok (.slice (some ⟨w.heap.size, 0, none⟩) (m + n) newCap)
        { w with heap := w.heap.push (.cells (old ++ new ++ Builtin.zeroCells zu.cells (newCap - (m + n))) el), drawn := w.drawn + 1 } := by
  obtain ⟨xa, xc, rfl⟩ := hl
  have hsz : szOf P el = some i.size := by simp [szOf, hi]
  have hi' : Tables.info? P.toTables el = some i := hi
  have e0 : (#[Value.slice base m sCap, Value.slice xa n xc] : Array Value)[0]? = some (.slice base m sCap) := rfl
  have e1 : (#[Value.slice base m sCap, Value.slice xa n xc] : Array Value)[1]? = some (.slice xa n xc) := rfl
  obtain ⟨d, hd, hdi⟩ := isIntT_spec hint
  have hnx : ¬ Builtin.nextslicecap (m + n) sCap * i.bytes > 2 ^ 48 := by
    have h1 := Nat.mul_le_mul (nextcap_le hneed hcap) hb
    have h2 : 2000000 * 10000 < 2 ^ 48 := by decide
    exact Nat.not_lt.2 (Nat.le_trans h1 (Nat.le_of_lt h2))
  have hmx : ¬ (((m + n : Nat) : Int) > 9223372036854775807) := by omega
  refine ⟨(m + n) + w.tape w.drawn (.appendCap (m + n) sCap el) % (2 ^ 63 - (m + n)), Nat.le_add_right _ _, ?_⟩
  have hch : ∀ w : World, (choose (.appendCap (m + n) sCap el)).run P w = .ok ((m + n) + w.tape w.drawn (.appendCap (m + n) sCap el) % (2 ^ 63 - (m + n))) w.drew := fun w => rfl
  unfold Builtin.append_
  simp only [h0, e0, e1, Sem.run_bind, under_run hu, Result.andThen_ok, szOf_run hsz, h1, under_run hd]
  cases d
  case int k => exact absurd rfl (hdi k)
  all_goals
    simp only [Sem.run_bind, Result.andThen_ok, Sem.run_ite, Bool.false_eq_true, if_false, Builtin.lenOf, Sem.run_pure, hroom, Bool.not_false, if_true, typeInfo, run_program, hi', hb1, or_false, and_false, hnx, hch, run_askRoom, hold, hnew, hz,
      newRow, run_newObj]
    rfl

theorem zeroCells_size (z : Array Value) (n : Nat) : (Builtin.zeroCells z n).size = n * z.size := by simp [Builtin.zeroCells]

theorem take_append_rel {cs : List AV} {C rest : Array Value} (h : VRels ρ φ cs C.toList) : VRels ρ φ cs ((C ++ rest).toList.take cs.length) := by
  have hl := h.length
  rw [Array.toList_append, ← hl, List.take_left']
  · exact h
  · rfl

theorem grown_post {s s' : St} {v : AV} {el n size newCap d : Nat} {cs : List AV} {C rest : Array Value} {w : World} (hm : aGrown el n size cs s = some (v, s')) (hH : HRel B ρ φ s.H.get w)
    (hf : Fresh φ s.n s'.n) (hC : VRels ρ φ cs C.toList) (hN : (C ++ rest).size = newCap * size) (hn : n ≤ newCap) (hsz : 0 < size) :
    ∃ φ', VRel ρ φ' v (.slice (some ⟨w.heap.size, 0, none⟩) n newCap) ∧ Post B ρ φ φ' s s' w { w with heap := w.heap.push (.cells (C ++ rest) el), drawn := d } := by
  unfold aGrown at hm
  obtain ⟨l, s1, h1, h2⟩ := bind_spec hm
  obtain ⟨rfl, rfl⟩ := pure_spec h2
  have hl := hC.length
  simp only [Array.length_toList] at hl
  obtain ⟨rfl, hp⟩ := newRow_post (C := C ++ rest) h1 hH hf (take_append_rel hC) (fun h => by simp at h) (by simp; omega) d
  exact ⟨_, .gslice _ _ _ _ w.heap.size _ newCap (PM.put_self _ _) (by simpa using hN.symm) hn hsz, hp⟩

theorem heap_self {w : World} {b : Nat} {x : Obj} (h : w.heap[b]? = some x) : w = { w with heap := w.heap.setIfInBounds b x } := by
  have hb := lt_of_heap h
  have : w.heap.setIfInBounds b x = w.heap := by
    apply Array.ext_getElem?
    intro k
    rw [Array.getElem?_setIfInBounds]
    by_cases hk : b = k
    · subst hk; rw [if_pos rfl, if_pos hb, h]
    · rw [if_neg hk]
  rw [this]

theorem append_sim {ts : Array TypeId} {t t2 u : Nat} {s x : AV} {sv xv : Value} (h0 : ts[0]? = some t) (h1 : ts[1]? = some u) (hs : VRel ρ φ s sv) (hx : VRel ρ φ x xv) :
    SimV P B ρ φ (aAppend P t (some u) s x) (Builtin.append_ ts t2 #[sv, xv]) := by
  unfold aAppend
  split
  · rename_i el m n hel hm hn
    have hu := elemT_spec hel
    split
    · rename_i i hi hint
      split
      · rename_i z hc hz
        simp only [Bool.and_eq_true] at hc
        have c1 := Nat.le_of_ble_eq_true hc.1
        have c2 : m + n ≤ 100000 := Nat.le_of_ble_eq_true hc.2.1
        have c3 := Nat.le_of_ble_eq_true hc.2.2.1
        have c4 := Nat.le_of_ble_eq_true hc.2.2.2
        cases hzb : Nat.beq z.cells.length i.size
        · exact SimV.fail
        · dsimp only
          have hzl := Nat.eq_of_beq_eq_true hzb
          obtain ⟨zu, hzr, hzv⟩ := zero_run hz
          have hlz := (cells_rel (hzv ρ φ)).length
          simp only [Array.length_toList] at hlz
          have hzs : zu.cells.size = i.size := by omega
          intro st v s' w hmm hH hf
          obtain ⟨new, s1, hcells, h2⟩ := bind_spec hmm
          obtain ⟨eH, en, C, hrun, hrel, hlen⟩ := cells_run (P := P) hx hcells hH
          have hxl := lenAV_rel hx hn
          have hC : C.size = n * i.size := by have := hrel.length; simp only [Array.length_toList] at this; omega
          have hr1 := hrun w rfl
          have hr2 := hrun w.drew rfl
          have same1 : Post B ρ φ φ st s1 w w := Post.same hH eH en (Fr.refl _ _)
          have hH1 : HRel B ρ φ s1.H.get w := same1.rel
          cases n with
          | zero =>
            have hC0 : C = #[] := by apply Array.eq_empty_of_size_eq_zero; omega
            subst hC0
            cases hs with
            | nils =>
              simp only [lenAV, Option.some.injEq] at hm
              subst hm
              obtain ⟨rfl, rfl⟩ := pure_spec h2
              refine ⟨φ, _, w, append_room (t2 := t2) h0 hu h1 hint hi hxl hr1 (Nat.le_refl _), .nils, same1⟩
            | slice l off len cap b N hφ =>
              simp only [lenAV, Option.some.injEq] at hm
              subst hm
              dsimp only at h2
              cases hle : Nat.ble len cap <;> rw [hle] at h2 <;> dsimp only at h2
              · exact (fail_spec h2).elim
              · obtain ⟨rfl, rfl⟩ := pure_spec h2
                have := append_room (t2 := t2) (base := some ⟨b, off, none⟩) h0 hu h1 hint hi hxl hr1 (Nat.le_of_ble_eq_true hle)
                refine ⟨φ, _, w, this, .slice _ _ _ _ b N hφ, same1⟩
            | gslice l off len sz b N c hφ q1 q2 q3 =>
              simp only [lenAV, Option.some.injEq] at hm
              subst hm
              obtain ⟨rfl, rfl⟩ := pure_spec h2
              have := append_room (t2 := t2) (base := some ⟨b, off, none⟩) h0 hu h1 hint hi hxl hr1 q2
              refine ⟨φ, _, w, this, .gslice _ _ _ _ b N c hφ q1 q2 q3, same1⟩
            | _ => simp [lenAV] at hm
          | succ n =>
            cases hs with
            | nils =>
              simp only [lenAV, Option.some.injEq] at hm
              subst hm
              dsimp only at h2
              obtain ⟨nc, hnc, hr⟩ := append_grow (t2 := t2) (m := 0) (sCap := 0) (base := none) (old := #[]) h0 hu h1 hint hi hxl rfl hr2 hzr (by omega) c3 (by omega) c2 (by omega)
              rw [Nat.zero_add] at hnc hr
              obtain ⟨φ', hv, hp⟩ := grown_post (C := #[] ++ C) (rest := Builtin.zeroCells zu.cells (nc - (n + 1))) (newCap := nc) (d := w.drawn + 1) h2 hH1 (by rw [en]; exact hf) (by simpa using hrel)
                (by rw [Array.size_append, zeroCells_size, hzs]; simp only [Array.size_append, hC]; simp; rw [← Nat.add_mul]; congr 1; omega) hnc (by omega)
              exact ⟨φ', _, _, hr, hv, same1.trans hp⟩
            | slice l off len cap b N hφ =>
              simp only [lenAV, Option.some.injEq] at hm
              subst hm
              dsimp only at h2
              cases hle : Nat.ble (len + (n + 1)) cap <;> rw [hle] at h2 <;> dsimp only at h2
              · have hnr : ¬ len + (n + 1) ≤ cap := fun h => by rw [Nat.ble_eq_true_of_le h] at hle; simp at hle
                cases hfc : fits cap <;> rw [hfc] at h2 <;> dsimp only at h2
                · exact (fail_spec h2).elim
                · have hcap : cap ≤ 100000 := Nat.le_of_ble_eq_true hfc
                  obtain ⟨old, s2, hold, h3⟩ := bind_spec h2
                  obtain ⟨eH2, en2, O, hrunO, hrelO, hlenO⟩ := cells_run (P := P) (.slice l off len cap b N hφ) hold hH1
                  obtain ⟨nc, hnc, hr⟩ := append_grow (t2 := t2) h0 hu h1 hint hi hxl (hrunO w.drew rfl) hr2 hzr hnr c3 (by omega) c2 hcap
                  have same2 : Post B ρ φ φ st s2 w w := Post.same hH (by rw [eH2, eH]) (by omega) (Fr.refl _ _)
                  have hO : O.size = len * i.size := by have := hrelO.length; simp only [Array.length_toList] at this; omega
                  obtain ⟨φ', hv, hp⟩ := grown_post (C := O ++ C) (rest := Builtin.zeroCells zu.cells (nc - (len + (n + 1)))) (newCap := nc) (d := w.drawn + 1) h3 same2.rel (by rw [en2, en]; exact hf)
                    (by rw [Array.toList_append]; exact hrelO.append hrel)
                    (by rw [Array.size_append, zeroCells_size, hzs, Array.size_append, hC, hO, ← Nat.add_mul, ← Nat.add_mul]; congr 1; omega) hnc (by omega)
                  exact ⟨φ', _, _, hr, hv, same2.trans hp⟩
              · have hroom := Nat.le_of_ble_eq_true hle
                obtain ⟨uu, s2, hov, h3⟩ := bind_spec h2
                obtain ⟨rfl, rfl⟩ := pure_spec h3
                obtain ⟨φ', w', hr, hp⟩ := over_sim (P := P) (B := B) hrel hφ s1 _ _ w hov hH1 (by rw [en]; exact hf)
                have hrr := append_room (t2 := t2) (base := some ⟨b, off, none⟩) h0 hu h1 hint hi hxl hr1 hroom
                simp only [addr_add] at hrr
                rw [hr] at hrr
                exact ⟨φ', _, w', hrr, .slice _ _ _ _ b N (hp.le _ _ hφ), same1.trans hp⟩
            | gslice l off len sz b N c hφ q1 q2 q3 =>
              simp only [lenAV, Option.some.injEq] at hm
              subst hm
              dsimp only at h2
              obtain ⟨o, s2, hrd, h3⟩ := bind_spec h2
              obtain ⟨eH2, en2, hrow⟩ := row_at hrd hφ hH1
              obtain ⟨ho, ha, -, -⟩ := rd_spec hrd
              split at h3
              · rename_i el' cs
                obtain ⟨D, T, fz, g2, r2, r3, r4, r5, r6, r7⟩ := hrow _ _ _ _ rfl
                have hfz := r6 rfl
                subst hfz
                have hT := (r7 rfl).symm
                subst hT
                cases hcc : (Nat.beq off 0 && (Nat.beq sz i.size && (Nat.beq cs.length (len * sz) && (Nat.beq el' el && allCells new)))) <;> rw [hcc] at h3 <;> dsimp only at h3
                · exact (fail_spec h3).elim
                · simp only [Bool.and_eq_true] at hcc
                  obtain ⟨d1, d2, d3, d4, d5⟩ := hcc
                  have d1 := Nat.eq_of_beq_eq_true d1
                  have d2 := Nat.eq_of_beq_eq_true d2
                  have d3 := Nat.eq_of_beq_eq_true d3
                  have d4 := Nat.eq_of_beq_eq_true d4
                  subst d1 d2 d4
                  obtain ⟨uu, s3, hkill, hgrow⟩ := bind_spec h3
                  obtain ⟨o', ho', ha', hro', hset, hn3⟩ := wr_spec hkill
                  rw [eH2] at hset
                  by_cases hroom : len + (n + 1) ≤ c
                  · -- it grows where it lies
                    have hl := hrel.length
                    simp only [Array.length_toList] at hl
                    have hmul : (len + (n + 1)) * i.size ≤ c * i.size := Nat.mul_le_mul_right _ hroom
                    have hN : D.size = c * i.size := by omega
                    rw [Nat.add_mul] at hmul
                    have hst := run_storeCells_at P b (len * i.size) el' C.toList 0 D w g2 (by simp; omega) (allCells_one hrel d5)
                    rw [Nat.add_zero, setRow_set g2] at hst
                    have hrr := append_room (t2 := t2) (base := some ⟨b, 0, none⟩) h0 hu h1 hint hi hxl hr1 hroom
                    simp only [addr_add, Nat.zero_add] at hrr
                    rw [hst] at hrr
                    unfold aGrown at hgrow
                    obtain ⟨l2, s4, hnew, hpu⟩ := bind_spec hgrow
                    obtain ⟨rfl, rfl⟩ := pure_spec hpu
                    obtain ⟨rfl, hset4, hn4⟩ := newO_spec hnew
                    have hn31 : s3.n = s1.n := by omega
                    have hfn : φ s1.n = none := hf s1.n (by omega) (by omega)
                    rw [hn31]
                    refine ⟨φ.put s1.n (b, N), _, _, hrr, .gslice _ _ _ _ b N c (PM.put_self _ _) q1 hroom q3, same1.trans ?_⟩
                    refine Post.grow (o := .cells false true el' (cs ++ new)) hH1 ho ha rfl hφ hfn (fun mm => ?_) (by omega) rfl fun _ => ?_
                    · rw [hset4, hn31]
                      by_cases e : mm = s1.n
                      · rw [if_pos e, if_pos e]
                      · rw [if_neg e, if_neg e, hset]
                    · have hle := PM.put_le (x := (b, N)) hfn
                      refine ⟨fun _ => rfl, ?_, fun h => by simp at h, ?_, ?_, fun _ => rfl⟩
                      · simp; omega
                      · simp; omega
                      · have e1 : (cs ++ new).length = len * i.size + C.toList.length := by simp; omega
                        rw [e1]
                        have e2 : ((D.toList.take (len * i.size) ++ C.toList ++ D.toList.drop (len * i.size + C.toList.length)).toArray.toList).take (len * i.size + C.toList.length) = D.toList.take (len * i.size) ++ C.toList := by
                          show (D.toList.take (len * i.size) ++ C.toList ++ D.toList.drop (len * i.size + C.toList.length)).take (len * i.size + C.toList.length) = _
                          rw [List.take_left']
                          simp; omega
                        rw [e2]
                        rw [← d3]
                        exact (r5.append hrel).mono hle
                  · -- it is made anew
                    have hcap : c ≤ 100000 := by omega
                    have hO : (D.extract 0 (0 + len * i.size)).size = len * i.size := by simp; omega
                    have hrunO : ∀ w' : World, w'.heap = w.heap → (Builtin.firstCells i.size len (.slice (some ⟨b, 0, none⟩) len c)).run P w' = .ok (D.extract 0 (0 + len * i.size)) w' := fun w' hw' => by
                      simp only [Builtin.firstCells]
                      exact loadCells_at (by rw [hw']; exact g2) (by omega)
                    obtain ⟨nc, hnc, hr⟩ := append_grow (t2 := t2) h0 hu h1 hint hi hxl (hrunO w.drew rfl) hr2 hzr hroom c3 (by omega) c2 hcap
                    have hk : Post B ρ φ φ s2 s3 w w := by
                      refine Post.write (o := .dead) (x := .cells D el' (0, 0)) (by rw [eH2]; exact hH1) (by rw [eH2]; exact ho) ha rfl hφ (fun mm => by rw [eH2]; exact hset mm) hn3 (heap_self g2) (fun h => by simp [AObj.alive] at h)
                    have same2 : Post B ρ φ φ st s2 w w := Post.same hH (by rw [eH2, eH]) (by omega) (Fr.refl _ _)
                    have hrelO : VRels ρ φ cs (D.extract 0 (0 + len * i.size)).toList := by
                      have := seg_rel r5 (off := 0) (k := cs.length) (by omega)
                      rw [List.drop_zero, List.take_length, d3] at this
                      exact this
                    obtain ⟨φ', hv, hp⟩ := grown_post (C := D.extract 0 (0 + len * i.size) ++ C) (rest := Builtin.zeroCells zu.cells (nc - (len + (n + 1)))) (newCap := nc) (d := w.drawn + 1) hgrow hk.rel (by rw [show s3.n = st.n by omega]; exact hf)
                      (by rw [Array.toList_append]; exact hrelO.append hrel)
                      (by rw [Array.size_append, zeroCells_size, hzs, Array.size_append, hC, hO, ← Nat.add_mul, ← Nat.add_mul]; congr 1; omega) hnc (by omega)
                    exact ⟨φ', _, _, hr, hv, (same2.trans hk).trans hp⟩
              · exact (fail_spec h3).elim
            | _ => simp [lenAV] at hm
      · exact SimV.fail
    · exact SimV.fail
  · exact SimV.fail
end
end Go.Ab
