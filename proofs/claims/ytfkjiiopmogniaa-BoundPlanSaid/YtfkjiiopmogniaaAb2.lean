/- The abstract machine: appending, slices, calls, one operation. No condition. -/
import Derived.Test.YtfkjiiopmogniaaAb1
namespace Go.Abs
variable {P : Program} {T : Tbl} {c : Cx} {m : Mem}

/-- An empty row that has no block. -/
def Cx.virt (c : Cx) (id : Nat) : Cx := { c with ρ := fun x => if x = id then some none else c.ρ x, us := fun x => c.us x ∨ x = id }
theorem virt_evo {id : Nat} {S : Nat → Prop} (hid : ¬ c.us id) : Evo S c (c.virt id) :=
  ⟨rfl, rfl, rfl, Nat.le_refl _, fun _ C _ _ h => ⟨C, h, rfl⟩, fun _ _ _ => rfl, fun _ _ h => ⟨h, rfl⟩, fun _ _ h _ _ => h, fun _ h => .inl h, fun x hx => by
    have : x ≠ id := fun e => hid (e ▸ hx)
    exact .inl (by simp [Cx.virt, this])⟩
theorem virt_nxt {id nx nx' : Nat} (hm : MemRel c m) (hid : ¬ c.us id) (ty sz : Nat) : Nxt c (c.virt id) (m.set id (.arr ty sz [])) id nx nx' where
  evo := virt_evo hid
  mem := {
    blk := fun x => by
      rw [Mem.get_set]
      by_cases e : x = id
      · simp only [e, if_true]
        exact .inl ⟨rfl, by simp [Cx.virt]⟩
      · simp only [e, if_false]
        exact (hm.blk x).evo (virt_evo (S := fun _ => True) hid) (by simp [Cx.virt, e]) (fun k _ => ⟨rfl, fun o ho => ho⟩)
    inj := fun x y k h1 h2 => by
      have : ∀ z, (c.virt id).ρ z = some (some k) → c.ρ z = some (some k) := fun z hz => by
        simp only [Cx.virt] at hz
        by_cases e : z = id
        · simp [e] at hz
        · simpa only [e, if_false] using hz
      exact hm.inj x y k (this x h1) (this y h2)
    big := fun x h => by
      have h1 : ¬ c.us x := fun e => h (.inl e)
      have h2 : x ≠ id := fun e => h (.inr e)
      simp only [Cx.virt, h2, if_false]
      exact hm.big x h1
    imlt := hm.imlt }
  fresh := fun x k h => by
    simp only [Cx.virt] at h
    by_cases e : x = id
    · simp [e] at h
    · simp only [e, if_false] at h; exact .inl ⟨x, h⟩
  us := fun x h => by
    rcases h with h | h
    · exact .inl h
    · exact .inr (.inl h)

/-- The elements of a row that is read, where they lie and what they are. -/
def srcE (A : Ar) (m : Mem) (sz : Nat) : V → Option (List (List V) × List Nat)
  | .row s es => if s = sz then some (es, []) else none
  | .msl s b off n =>
    match m.get b with
    | some (.arr _ s' es) => if s = sz ∧ s' = sz then some (A.seg es off n, [b]) else none
    | _ => none
  | .at (.slice none 0 0) => some ([], [])
  | .cap0 => some ([], [])
  | _ => none
/-- Is all of a part of a row there? -/
def srcOk (A : Ar) (m : Mem) : V → Prop
  | .msl _ b off n =>
    match m.get b with
    | some (.arr _ _ es) => A.fits off n (A.len es)
    | _ => False
  | _ => True
def SrcAt (c : Cx) (w : World) (sz : Nat) (es : List (List V)) (v : Value) : Prop :=
  ∃ a cap, v = .slice a es.length cap ∧ (∀ e ∈ es, e.length = sz) ∧
    (0 < es.length → ∃ ad vals, a = some ad ∧ List.length vals = es.length * sz ∧ (∀ j u, vals[j]? = some u → w.cell? (ad.add j) = some u) ∧
      (∀ i (h : i < es.length) j (h' : j < es[i].length), ∃ u, vals[i * sz + j]? = some u ∧ Rel c es[i][j] u))

theorem mem_es {es : List (List V)} {sz : Nat} (h : ∀ i (h : i < es.length), es[i].length = sz) : ∀ e ∈ es, e.length = sz := fun e he => by
  obtain ⟨i, hi, rfl⟩ := List.getElem_of_mem he
  exact h i hi

theorem src_sound (hm : MemRel c m) {sz : Nat} {Y : V} {v : Value} {es : List (List V)} {rd : List Nat} (hY : Rel c Y v) (h : srcE Ar.std m sz Y = some (es, rd)) (hok : srcOk Ar.std m Y) : SrcAt c c.w sz es v := by
  unfold srcE at h
  split at h
  · split at h
    case isFalse => simp at h
    rename_i s es' hs
    subst hs
    obtain ⟨rfl, rfl⟩ : es' = es ∧ [] = rd := by simpa using h
    cases hY with
    | row _ _ a cap k o us h00 h1 h2 h3 h4 =>
      refine ⟨a, cap, rfl, mem_es h2, fun hpos => ?_⟩
      obtain rfl := h1 hpos
      refine ⟨⟨k, o, none⟩, (List.range (es'.length * s)).map (fun q => us (q / s) (q % s)), rfl, by simp, fun j u hj => ?_, fun i hi j hj => ?_⟩
      · have hlt : j < es'.length * s := by
          have := (List.getElem?_eq_some_iff.1 hj).1
          simpa using this
        have hs0 : 0 < s := by
          rcases Nat.eq_zero_or_pos s with h | h
          · subst h; simp at hlt
          · exact h
        simp [List.getElem?_map, List.getElem?_range, hlt] at hj
        subst hj
        have hq : j / s < es'.length := (Nat.div_lt_iff_lt_mul hs0).2 hlt
        have hr : j % s < es'[j / s].length := by rw [h2 _ hq]; exact Nat.mod_lt _ hs0
        have := (h3 _ hq _ hr).1
        rw [Addr.add_plain, show o + j = o + j / s * s + j % s by rw [Nat.add_assoc, Nat.div_add_mod']]
        exact this
      · have hj' : j < s := by rw [h2 i hi] at hj; exact hj
        have hlt : i * s + j < es'.length * s := by
          have : (i + 1) * s ≤ es'.length * s := Nat.mul_le_mul_right _ hi
          rw [Nat.add_mul] at this
          omega
        refine ⟨us i j, ?_, (h4 i hi j hj).open⟩
        have e1 : (i * s + j) / s = i := by
          rw [Nat.mul_comm, Nat.mul_add_div (by omega)]
          simp [Nat.div_eq_of_lt hj']
        have e2 : (i * s + j) % s = j := by
          rw [Nat.mul_comm, Nat.mul_add_mod]
          exact Nat.mod_eq_of_lt hj'
        simp [List.getElem?_map, List.getElem?_range, hlt, e1, e2]
  · rename_i s b off n
    split at h
    case h_2 => simp at h
    rename_i ty s' fs hb
    split at h
    case isFalse => simp at h
    rename_i hss
    obtain ⟨rfl, rfl⟩ := hss
    obtain ⟨rfl, rfl⟩ : (fs.drop off).take n = es ∧ [b] = rd := by simpa [Ar.std] using h
    simp only [srcOk, hb] at hok
    have hok : off + n ≤ fs.length := hok
    have hlen : ((fs.drop off).take n).length = n := by simp; omega
    cases hY with
    | msl _ _ _ _ _ hus hms =>
      rcases hms.live hm hb with ⟨rfl, rfl, rfl, _, a, rfl⟩ | ⟨k, C, cap, vc, a, g1, g2, g3, g4, g5, g6, g7, g8, g9, g10, rfl, g11⟩
      · exact ⟨a, 0, by simp, by simp, by simp⟩
      · refine ⟨some a, vc, by rw [hlen], fun e he => mem_es g6 e (List.mem_of_mem_drop (List.mem_of_mem_take he)), fun hpos => ?_⟩
        rw [hlen] at hpos
        rcases g11 with rfl | rfl
        case inr => omega
        refine ⟨⟨k, off * s', none⟩, (C.toList.drop (off * s')).take (n * s'), rfl, ?_, fun j u hj => ?_, fun i hi j hj => ?_⟩
        · rw [hlen]
          simp
          have : (off + n) * s' ≤ C.size := by rw [← g10]; exact Nat.mul_le_mul_right _ (by omega)
          rw [Nat.add_mul] at this
          omega
        · rw [Addr.add_plain]
          have hlt := (List.getElem?_eq_some_iff.1 hj).1
          simp at hlt
          rw [List.getElem?_take_of_lt (by omega), List.getElem?_drop] at hj
          simp only [World.cell?, g2]
          simpa using hj
        · have hi' : i < n := by rw [hlen] at hi; exact hi
          have hio : off + i < fs.length := by omega
          have hel : ((fs.drop off).take n)[i] = fs[off + i] := by simp
          simp only [hel] at hj ⊢
          obtain ⟨u, hu, hur⟩ := g7 (off + i) hio j hj
          refine ⟨u, ?_, hur⟩
          have hj' : j < s' := by rw [g6 _ hio] at hj; exact hj
          rw [List.getElem?_take_of_lt, List.getElem?_drop, ← Nat.add_assoc, ← Nat.add_mul]
          · simpa using hu
          · have : (i + 1) * s' ≤ n * s' := Nat.mul_le_mul_right _ hi'
            rw [Nat.add_mul] at this
            omega
  · obtain ⟨rfl, rfl⟩ : [] = es ∧ [] = rd := by simpa using h
    obtain rfl := hY.at_inv
    exact ⟨none, 0, rfl, by simp, by simp⟩
  · obtain ⟨rfl, rfl⟩ : [] = es ∧ [] = rd := by simpa using h
    cases hY
    exact ⟨_, 0, rfl, by simp, by simp⟩
  · simp at h


def OneE (es : List (List V)) : Prop := ∀ e ∈ es, ∀ x ∈ e, x.one = true

theorem vals_one {sz : Nat} {es : List (List V)} {vals : List Value} (hone : OneE es) (hlen : ∀ e ∈ es, e.length = sz) (hl : vals.length = es.length * sz)
    (hr : ∀ i (h : i < es.length) j (h' : j < es[i].length), ∃ u, vals[i * sz + j]? = some u ∧ Rel c es[i][j] u) : ∀ u ∈ vals, u.oneCell' = true := by
  intro u hu
  obtain ⟨q, hq, rfl⟩ := List.getElem_of_mem hu
  have hq' : q < es.length * sz := by omega
  have hs0 : 0 < sz := by
    rcases Nat.eq_zero_or_pos sz with h | h
    · subst h; simp at hq'
    · exact h
  have h1 : q / sz < es.length := (Nat.div_lt_iff_lt_mul hs0).2 hq'
  have h2 : q % sz < es[q / sz].length := by rw [hlen _ (List.getElem_mem h1)]; exact Nat.mod_lt _ hs0
  obtain ⟨u, hu1, hu2⟩ := hr _ h1 _ h2
  rw [Nat.div_add_mod'] at hu1
  rw [List.getElem?_eq_getElem hq] at hu1
  obtain rfl := Option.some.inj hu1
  exact (hu2.one (hone _ (List.getElem_mem h1) _ (List.getElem_mem h2))).1

/-- Cells laid one behind the other: rows told together. -/
theorem join_rel {sz : Nat} {es fs : List (List V)} {xs ys : List Value} (zs : List Value) (he : ∀ i (h : i < es.length), es[i].length = sz) (hf : ∀ i (h : i < fs.length), fs[i].length = sz)
    (hx : xs.length = es.length * sz) (hy : ys.length = fs.length * sz)
    (hrx : ∀ i (h : i < es.length) j (h' : j < es[i].length), ∃ u, xs[i * sz + j]? = some u ∧ Rel c es[i][j] u)
    (hry : ∀ i (h : i < fs.length) j (h' : j < fs[i].length), ∃ u, ys[i * sz + j]? = some u ∧ Rel c fs[i][j] u) :
    (∀ i (h : i < (es ++ fs).length), (es ++ fs)[i].length = sz) ∧
    ∀ i (h : i < (es ++ fs).length) j (h' : j < (es ++ fs)[i].length), ∃ u, (xs ++ ys ++ zs)[i * sz + j]? = some u ∧ Rel c (es ++ fs)[i][j] u := by
  have hlen : ∀ i (h : i < (es ++ fs).length), (es ++ fs)[i].length = sz := fun i h => by
    by_cases h1 : i < es.length
    · rw [List.getElem_append_left h1]; exact he i h1
    · rw [List.getElem_append_right (by omega)]; exact hf _ _
  refine ⟨hlen, fun i h j h' => ?_⟩
  have hj : j < sz := by rw [hlen i h] at h'; exact h'
  rw [List.append_assoc]
  by_cases h1 : i < es.length
  · have hb : i * sz + j < xs.length := by
      have : (i + 1) * sz ≤ es.length * sz := Nat.mul_le_mul_right _ h1
      rw [Nat.add_mul] at this
      omega
    rw [List.getElem?_append_left hb]
    obtain ⟨u, hu1, hu2⟩ := hrx i h1 j (by rw [he i h1]; exact hj)
    refine ⟨u, hu1, ?_⟩
    simpa only [List.getElem_append_left h1] using hu2
  · have h2 : i - es.length < fs.length := by simp at h; omega
    have e1 : i * sz + j = xs.length + ((i - es.length) * sz + j) := by
      rw [hx, ← Nat.add_assoc, ← Nat.add_mul]
      congr 2
      omega
    have hb : (i - es.length) * sz + j < ys.length := by
      have : (i - es.length + 1) * sz ≤ fs.length * sz := Nat.mul_le_mul_right _ h2
      rw [Nat.add_mul] at this
      omega
    rw [e1, List.getElem?_append_right (by omega), Nat.add_sub_cancel_left, List.getElem?_append_left hb]
    obtain ⟨u, hu1, hu2⟩ := hry (i - es.length) h2 j (by rw [hf _ h2]; exact hj)
    refine ⟨u, hu1, ?_⟩
    simpa only [List.getElem_append_right (show es.length ≤ i by omega)] using hu2

theorem run_append_none (w : World) (t ty e : TypeId) (i : TypeInfo) (ht : P.underlying t = some (.slice e)) (hi : P.info? e = some i) (base a : Option Addr) (n cap m' : Nat) (hle : n ≤ cap) :
    (Builtin.append_ #[t, t] ty #[.slice base n cap, .slice a 0 m']).run P w = .ok (.slice base n cap) w := by
  have hf : (Builtin.firstCells i.size 0 (.slice a 0 m')).run P w = .ok #[] w := by
    cases a <;> simp [Builtin.firstCells, loadCells, loadCellsFrom]
  cases base <;> simp [Builtin.append_, run_underlying ht, sizeOf, typeInfo, hi, Builtin.lenOf, hle, hf, storeCells]

structure AppT (P : Program) (T : Tbl) (t e : Nat) (te : TI) : Prop where
  t : P.underlying t = some (.slice e)
  e : ∃ i z, P.info? e = some i ∧ i.size = te.size ∧ i.bytes = te.bytes ∧ i.zero = some z ∧ z.cells.size = te.size
theorem appT (hT : TblOk P T) {t e : Nat} {te : TI} (ht : (T.get t).map TI.k = some (.slice e)) (hte : T.get e = some te) : AppT P T t e te := by
  obtain ⟨ti, hti, hk⟩ := Option.map_eq_some_iff.1 ht
  have hu := (hT t ti hti).k
  rw [hk] at hu
  obtain ⟨⟨i, hi, hs, hb, z, hz, hzc⟩, hlen, _⟩ := hT e te hte
  exact ⟨hu, i, z, hi, hs, hb, hz, by rw [← hzc] at hlen; simpa using hlen⟩

theorem append_op {o : Oper} {a : Act} {S X : Operand} {t : Nat} {v w' : _} (ho : o.op = .call { callee := .builtin .append, args := #[S, X], argTypes := #[t, t] })
    (h : (Builtin.append_ #[t, t] o.type #[a.eval S, a.eval X]).run P c.w = .ok v w') : (execOp a.eval o).run P c.w = .ok (.value v) w' := by
  simp [execOp, ho, resolve, invoke, builtin, h]

/-- append at a row of no element that has no room. -/
theorem appNil_good {o : Oper} {a : Act} {id nx nx' : Nat} {t e : Nat} {te : TI} {S X : Operand} {Y : V} {news : List (List V)} {rd : List Nat} (hT : TblOk P T) (hm : MemRel c m) (hid : ¬ c.us id)
    (ho : o.op = .call { callee := .builtin .append, args := #[S, X], argTypes := #[t, t] }) (hS : ∃ q, a.eval S = .slice q 0 0) (hX : Rel c Y (a.eval X))
    (ht : (T.get t).map TI.k = some (.slice e)) (hte : T.get e = some te) (hs0 : 0 < te.size) (hb0 : 0 < te.bytes) (hsrc : srcE Ar.std m te.size Y = some (news, rd)) (hok : srcOk Ar.std m Y) (hone : OneE news)
    (hby : news.length * te.bytes ≤ 140737488355328) : Good P o a c (m.set id (.arr e te.size news)) id nx nx' (.msl te.size id 0 news.length) := by
  obtain ⟨htt, i, z, hi, hs, hb, hz, hzs⟩ := appT hT ht hte
  obtain ⟨q, hq⟩ := hS
  obtain ⟨sa, scap, hv, hlen, hpos⟩ := src_sound hm hX hsrc hok
  have hn : news.length ≤ 140737488355328 := Nat.le_trans (Nat.le_mul_of_pos_right _ hb0) hby
  rcases Nat.eq_zero_or_pos news.length with h0 | h0
  · have hnil : news = [] := List.eq_nil_of_length_eq_zero h0
    subst hnil
    refine Good.value (v := .slice q 0 0) (c' := c.virt id) (append_op ho ?_) (virt_nxt hm hid e te.size) (.msl _ _ _ _ _ (.inr rfl) ?_)
    · rw [hq, hv]
      exact run_append_none c.w t o.type e i htt hi q sa 0 0 scap (Nat.le_refl _)
    · unfold MslOk; simp [Cx.virt]
  · obtain ⟨ad, vals, rfl, hvl, hcell, hrel⟩ := hpos h0
    have hlen' : ∀ i (h : i < news.length), news[i].length = te.size := fun i h => hlen _ (List.getElem_mem h)
    have fin : ∀ (w' : World) (G : Nat) (zs : List Value) (O : Array Value), O.toList = vals ++ zs → news.length ≤ G → G ≤ maxLen → vals.length + zs.length = G * te.size → Grew c.w w' (.cells O e) →
        Nxt c (c.new id w' c.w.heap.size) (m.set id (.arr e te.size news)) id nx nx' ∧ Rel (c.new id w' c.w.heap.size) (.msl te.size id 0 news.length) (.slice (some ⟨c.w.heap.size, 0, none⟩) news.length G) := by
      intro w' G zs O hO hG hGm hz hg
      have hOs : O.size = G * te.size := by rw [← Array.length_toList, hO, List.length_append]; exact hz
      have hevo := Cx.new_evo (fun _ => True) hm hid hg
      obtain ⟨j1, j2⟩ := join_rel (c := c) (sz := te.size) (es := []) (fs := news) (xs := []) (ys := vals) zs (by simp) hlen' (by simp) hvl (by simp) hrel
      refine ⟨new_nxt hm hid hg (.inr ⟨c.w.heap.size, O, G, new_ρ, new_heap hg, hOs, hGm, hG, by simpa using j1, fun i hi j hj => ?_, new_im hm⟩), .msl _ _ _ _ _ (.inr rfl) ?_⟩
      · obtain ⟨u, hu, hur⟩ := j2 i (by simpa using hi) j (by simpa using hj)
        refine ⟨u, ?_, by simpa using hur.evo hevo⟩
        rw [← Array.getElem?_toList, hO]
        simpa using hu
      · unfold MslOk
        rw [new_ρ]
        exact ⟨G, O, e, new_heap hg, hG, by rw [hOs, Nat.zero_add], _, rfl, .inl (by simp)⟩
    cases q with
    | none =>
      have hr := run_append_nil (P := P) c.w t o.type e i z htt hi hz ad news.length scap vals (by rw [hvl, hs]) hcell h0 (by omega) (by rw [hb]; omega)
      obtain ⟨f1, f2⟩ := fin (c.w.drew.alloc (.cells (vals.toArray ++ Builtin.zeroCells z.cells (grownCap c.w news.length 0 e - news.length)) e)) (grownCap c.w news.length 0 e)
        (Builtin.zeroCells z.cells (grownCap c.w news.length 0 e - news.length)).toList _ (by simp) (grownCap_ge _ _ _ _) (grownCap_le_maxLen _ _ _ _ (by simp only [maxLen]; omega))
        (by
          have := grownCap_ge c.w news.length 0 e
          simp only [Array.length_toList, size_zeroCells, hzs, hvl, ← Nat.add_mul]
          congr 1; omega) (Grew.drewAlloc _ _)
      exact Good.value (append_op ho (by rw [hq, hv]; exact hr)) f1 f2
    | some qa =>
      have hr := run_append_grow (P := P) c.w t o.type e i z htt hi hz qa 0 0 [] (by simp) (by simp) ad news.length scap vals (by rw [hvl, hs]) hcell (by omega) (by omega)
        (by rw [hb]; exact growslice_fits (by omega) (by rw [Nat.zero_add]; exact hby))
      obtain ⟨f1, f2⟩ := fin _ (grownCap c.w (0 + news.length) 0 e) (Builtin.zeroCells z.cells (grownCap c.w (0 + news.length) 0 e - (0 + news.length))).toList _ (by simp) (by have := grownCap_ge c.w (0 + news.length) 0 e; omega) (grownCap_le_maxLen _ _ _ _ (by simp only [maxLen]; omega))
        (by
          have := grownCap_ge c.w (0 + news.length) 0 e
          simp only [Array.length_toList, size_zeroCells, hzs, hvl, ← Nat.add_mul]
          congr 1; omega) (Grew.drewAlloc c.w (.cells ([].toArray ++ vals.toArray ++ Builtin.zeroCells z.cells (grownCap c.w (0 + news.length) 0 e - (0 + news.length))) e))
      refine Good.value (append_op ho (by rw [hq, hv]; exact hr)) f1 ?_
      have e0 : 0 + news.length = news.length := Nat.zero_add _
      rw [show (Value.slice (some ⟨c.w.heap.size, 0, none⟩) (0 + news.length) (grownCap c.w (0 + news.length) 0 e)) = .slice (some ⟨c.w.heap.size, 0, none⟩) news.length (grownCap c.w (0 + news.length) 0 e) by rw [e0]]
      exact f2

theorem SrcAt.evo {S : Nat → Prop} {c c' : Cx} (e : Evo S c c') {w : World} {sz : Nat} {es : List (List V)} {v : Value} (h : SrcAt c w sz es v) : SrcAt c' w sz es v := by
  obtain ⟨a, cap, h1, h2, h3⟩ := h
  refine ⟨a, cap, h1, h2, fun hp => ?_⟩
  obtain ⟨ad, vals, g1, g2, g3, g4⟩ := h3 hp
  refine ⟨ad, vals, g1, g2, g3, fun i hi j hj => ?_⟩
  obtain ⟨u, hu1, hu2⟩ := g4 i hi j hj
  exact ⟨u, hu1, hu2.evo e⟩

theorem app_fin {c : Cx} {m : Mem} (hm : MemRel c m) {id nx nx' : Nat} (hid : ¬ c.us id) (e sz : Nat) {es news : List (List V)} {olds vals zs : List Value} {w' : World} {G : Nat} {O : Array Value}
    (he : ∀ i (h : i < es.length), es[i].length = sz) (hf : ∀ i (h : i < news.length), news[i].length = sz) (hx : olds.length = es.length * sz) (hy : vals.length = news.length * sz)
    (hrx : ∀ i (h : i < es.length) j (h' : j < es[i].length), ∃ u, olds[i * sz + j]? = some u ∧ Rel c es[i][j] u)
    (hry : ∀ i (h : i < news.length) j (h' : j < news[i].length), ∃ u, vals[i * sz + j]? = some u ∧ Rel c news[i][j] u)
    (hO : O.toList = olds ++ vals ++ zs) (hG : es.length + news.length ≤ G) (hGm : G ≤ maxLen) (hz : olds.length + vals.length + zs.length = G * sz) (hg : Grew c.w w' (.cells O e)) :
    Nxt c (c.new id w' c.w.heap.size) (m.set id (.arr e sz (es ++ news))) id nx nx' ∧ Rel (c.new id w' c.w.heap.size) (.msl sz id 0 (es.length + news.length)) (.slice (some ⟨c.w.heap.size, 0, none⟩) (es.length + news.length) G) := by
  have hOs : O.size = G * sz := by rw [← Array.length_toList, hO, List.length_append, List.length_append]; exact hz
  have hevo := Cx.new_evo (fun _ => True) hm hid hg
  obtain ⟨j1, j2⟩ := join_rel (c := c) zs he hf hx hy hrx hry
  refine ⟨new_nxt hm hid hg (.inr ⟨c.w.heap.size, O, G, new_ρ, new_heap hg, hOs, hGm, by simpa using hG, j1, fun i hi j hj => ?_, new_im hm⟩), .msl _ _ _ _ _ (.inr rfl) ?_⟩
  · obtain ⟨u, hu, hur⟩ := j2 i hi j hj
    refine ⟨u, ?_, hur.evo hevo⟩
    rw [← Array.getElem?_toList, hO]
    exact hu
  · unfold MslOk
    rw [new_ρ]
    exact ⟨G, O, e, new_heap hg, hG, by rw [hOs, Nat.zero_add], _, rfl, .inl (by simp)⟩

theorem Good.pre {o : Oper} {a : Act} {c c1 : Cx} {m1 m' : Mem} {id nx nx' : Nat} {x : V} (hn : Nxt c c1 m1 id nx nx') (hw : c1.w = c.w) (h : Good P o a c1 m' id nx nx' x) : Good P o a c m' id nx nx' x := by
  intro ro next Q hnext
  rw [← hw]
  exact h ro next Q fun v c' hn' hr => hnext v c' (hn.trans hn' (Nat.le_refl _)) hr

/-- append at a row of the call's own, at its end. -/
theorem app_good {o : Oper} {a : Act} {id nx nx' : Nat} {t e : Nat} {te : TI} {S X : Operand} {Y : V} {b : Nat} {es news : List (List V)} {rd : List Nat} (hT : TblOk P T) (hm : MemRel c m) (hid : ¬ c.us id)
    (ho : o.op = .call { callee := .builtin .append, args := #[S, X], argTypes := #[t, t] }) (hS : Rel c (.msl te.size b 0 es.length) (a.eval S)) (hb : m.get b = some (.arr e te.size es)) (hX : Rel c Y (a.eval X))
    (ht : (T.get t).map TI.k = some (.slice e)) (hte : T.get e = some te) (hs0 : 0 < te.size) (hb0 : 0 < te.bytes) (hsrc : srcE Ar.std m te.size Y = some (news, rd)) (hok : srcOk Ar.std m Y) (hone : OneE news)
    (hby : (es.length + news.length) * te.bytes ≤ 140737488355328) :
    Good P o a c ((m.del b).set id (.arr e te.size (es ++ news))) id nx nx' (.msl te.size id 0 (es.length + news.length)) := by
  obtain ⟨htt, i, z, hi, hs, hbb, hz, hzs⟩ := appT hT ht hte
  have hn : es.length + news.length ≤ 140737488355328 := Nat.le_trans (Nat.le_mul_of_pos_right _ hb0) hby
  have hsrcA := src_sound hm hX hsrc hok
  obtain ⟨sa, scap, hv, hlen, hpos⟩ := hsrcA
  generalize hvS : a.eval S = vs at hS
  cases hS with
  | msl _ _ _ _ _ hus hms =>
    rcases Nat.eq_zero_or_pos news.length with h0 | h0
    · -- nothing comes
      have hnil : news = [] := List.eq_nil_of_length_eq_zero h0
      subst hnil
      have hvs : ∃ q cap, vs = .slice q es.length cap ∧ es.length ≤ cap := by
        rcases hms.live hm hb with ⟨q1, _, _, _, q, rfl⟩ | ⟨_, _, _, vc, q, _, _, _, _, _, _, _, _, g9, _, rfl, _⟩
        · exact ⟨q, 0, by rw [q1], by omega⟩
        · exact ⟨_, vc, rfl, g9⟩
      obtain ⟨q, cap, rfl, hle⟩ := hvs
      have hmv : Rel (c.mv b id) (.msl te.size id 0 es.length) (.slice q es.length cap) := by
        refine .msl _ _ _ _ _ (.inr rfl) ?_
        unfold MslOk at hms ⊢
        rw [show (c.mv b id).ρ id = c.ρ b by simp [Cx.mv]]
        exact hms
      have := mv_nxt (nx := nx) (nx' := nx') hm hid hb hus
      refine Good.value (v := .slice q es.length cap) (c' := c.mv b id) (append_op ho ?_) (by simpa using this) (by simpa using hmv)
      rw [hvS, hv]
      exact run_append_none c.w t o.type e i htt hi q sa es.length cap scap hle
    · obtain ⟨ad, vals, rfl, hvl, hcell, hrel⟩ := hpos h0
      have hlen' : ∀ i (h : i < news.length), news[i].length = te.size := fun i h => hlen _ (List.getElem_mem h)
      have hone' := vals_one hone hlen hvl hrel
      have hkill := kill_nxt (b := b) (id := id) (nx := nx) (nx' := nx') hm
      have hidk : ¬ (c.kill b).us id := hid
      have hke : Evo (fun _ => True) c (c.kill b) := kill_evo
      rcases hms.live hm hb with ⟨q1, _, hes, hρ, q, rfl⟩ | ⟨k, C, cap, vc, q, g1, g2, g3, g4, g5, g6, g7, g8, g9, g10, rfl, g11⟩
      · -- there is no block
        subst hes
        refine Good.pre hkill rfl ?_
        have hblk0 : ∃ q, a.eval S = .slice q 0 0 := ⟨q, hvS⟩
        cases q with
        | none =>
          have hr := run_append_nil (P := P) c.w t o.type e i z htt hi hz ad news.length scap vals (by rw [hvl, hs]) hcell h0 (by omega) (by rw [hbb]; simp at hby; omega)
          obtain ⟨f1, f2⟩ := app_fin (c := c.kill b) (nx := nx) (nx' := nx') hkill.mem hidk e te.size (es := []) (news := news) (olds := []) (vals := vals) (zs := (Builtin.zeroCells z.cells (grownCap c.w news.length 0 e - news.length)).toList)
            (w' := c.w.drew.alloc (.cells (vals.toArray ++ Builtin.zeroCells z.cells (grownCap c.w news.length 0 e - news.length)) e)) (G := grownCap c.w news.length 0 e)
            (by simp) hlen' (by simp) hvl (by simp) (fun i hi j hj => by obtain ⟨u, hu1, hu2⟩ := hrel i hi j hj; exact ⟨u, hu1, hu2.evo hke⟩) (by simp) (by have := grownCap_ge c.w news.length 0 e; simpa using this) (grownCap_le_maxLen _ _ _ _ (by simp only [maxLen]; omega))
            (by
              have := grownCap_ge c.w news.length 0 e
              simp only [Array.length_toList, size_zeroCells, hzs, hvl, List.length_nil, Nat.zero_add, ← Nat.add_mul]
              congr 1; omega) (Grew.drewAlloc _ _)
          simp only [List.length_nil, Nat.zero_add, List.nil_append] at f1 f2 ⊢
          exact Good.value (append_op ho (by rw [hvS, hv]; exact hr)) f1 f2
        | some qa =>
          have hr := run_append_grow (P := P) c.w t o.type e i z htt hi hz qa 0 0 [] (by simp) (by simp) ad news.length scap vals (by rw [hvl, hs]) hcell (by omega) (by omega)
            (by rw [hbb]; exact growslice_fits (by omega) (by rw [Nat.zero_add]; simpa using hby))
          obtain ⟨f1, f2⟩ := app_fin (c := c.kill b) (nx := nx) (nx' := nx') hkill.mem hidk e te.size (es := []) (news := news) (olds := []) (vals := vals) (zs := (Builtin.zeroCells z.cells (grownCap c.w (0 + news.length) 0 e - (0 + news.length))).toList)
            (w' := c.w.drew.alloc (.cells ([].toArray ++ vals.toArray ++ Builtin.zeroCells z.cells (grownCap c.w (0 + news.length) 0 e - (0 + news.length))) e)) (G := grownCap c.w (0 + news.length) 0 e)
            (by simp) hlen' (by simp) hvl (by simp) (fun i hi j hj => by obtain ⟨u, hu1, hu2⟩ := hrel i hi j hj; exact ⟨u, hu1, hu2.evo hke⟩) (by simp) (by have := grownCap_ge c.w (0 + news.length) 0 e; simpa using this) (grownCap_le_maxLen _ _ _ _ (by simp only [maxLen]; omega))
            (by
              have := grownCap_ge c.w (0 + news.length) 0 e
              simp only [Array.length_toList, size_zeroCells, hzs, hvl, List.length_nil, Nat.zero_add, ← Nat.add_mul] at this ⊢
              congr 1; omega) (Grew.drewAlloc _ _)
          refine Good.value (append_op ho (by rw [hvS, hv]; exact hr)) f1 f2
      · by_cases hroom : es.length + news.length ≤ vc
        · -- there is room
          rcases g11 with rfl | rfl
          case inr => omega
          simp only [Nat.zero_add, Nat.zero_mul] at g10 ⊢
          have hfit : es.length * te.size + vals.length ≤ C.size := by
            rw [hvl, ← Nat.add_mul, ← g10]
            exact Nat.mul_le_mul_right _ hroom
          have hr := run_append_room (P := P) c.w t o.type e i htt hi k es.length vc C g2 ad news.length scap vals (by rw [hvl, hs]) hcell hone' hroom (by rw [hs]; exact hfit)
          rw [hs] at hr
          generalize hC' : (C.toList.take (es.length * te.size) ++ vals ++ C.toList.drop (es.length * te.size + vals.length)).toArray = C' at hr
          have hsize : C'.size = C.size := by rw [← hC']; simp; omega
          have hevo := Cx.put_evo (c := c) (b := b) (S := fun _ => True) trivial g2 hsize g8
          have hput := put_nxt (id := id) (nx := nx) (nx' := nx') (blk := .arr e te.size (es ++ news)) hm g1 g2 hsize g8 (by
            obtain ⟨j1, j2⟩ := join_rel (c := c) (sz := te.size) (es := es) (fs := news) (xs := C.toList.take (es.length * te.size)) (ys := vals) (C.toList.drop (es.length * te.size + vals.length)) g6 hlen'
              (by simp; omega) hvl (fun i hi j hj => by
                obtain ⟨u, hu1, hu2⟩ := g7 i hi j hj
                refine ⟨u, ?_, hu2⟩
                have hj' : j < te.size := by rw [g6 i hi] at hj; exact hj
                have : (i + 1) * te.size ≤ es.length * te.size := Nat.mul_le_mul_right _ hi
                rw [Nat.add_mul] at this
                rw [List.getElem?_take_of_lt (by omega)]
                simpa using hu1) hrel
            refine .inr ⟨k, C', cap, g1, setRow_heap c.w k C _ e (0, 0) g2, by rw [hsize, g3], g4, ?_, j1, fun i hi j hj => ?_, g8⟩
            · rw [List.length_append]
              have h1 : vc * te.size = cap * te.size := by rw [g10, g3]
              have := Nat.eq_of_mul_eq_mul_right hs0 h1
              omega
            · obtain ⟨u, hu1, hu2⟩ := j2 i hi j hj
              refine ⟨u, ?_, hu2.evo hevo⟩
              rw [← hC', List.getElem?_toArray]
              exact hu1)
          have hget : (m.set b (.arr e te.size (es ++ news))).get b = some (.arr e te.size (es ++ news)) := by simp [Mem.get_set]
          have hmv := mv_nxt (c := c.put k C') (id := id) (nx := nx) (nx' := nx') hput.mem hid hget hus
          have hmem : MemRel ((c.put k C').mv b id) ((m.del b).set id (.arr e te.size (es ++ news))) := by
            have := hmv.mem
            constructor
            · intro x
              have h1 := this.blk x
              rw [Mem.get_set, Mem.get_del, Mem.get_set] at h1
              rw [Mem.get_set, Mem.get_del]
              by_cases e1 : x = id
              · simpa [e1] using h1
              · by_cases e2 : x = b
                · simpa [e1, e2] using h1
                · simpa [e1, e2] using h1
            · exact this.inj
            · exact this.big
            · exact this.imlt
          have htr := hput.trans hmv (Nat.le_refl _)
          refine Good.value (v := .slice (some ⟨k, 0, none⟩) (es.length + news.length) vc) (c' := (c.put k C').mv b id) (append_op ho ?_) ⟨htr.evo, hmem, htr.fresh, htr.us⟩ (.msl _ _ _ _ _ (.inr rfl) ?_)
          · rw [hvS, hv, Nat.zero_mul]
            exact hr
          · unfold MslOk
            have : ((c.put k C').mv b id).ρ id = some (some k) := by simp [Cx.mv, Cx.put, g1]
            rw [this]
            exact ⟨vc, C', e, setRow_heap c.w k C _ e (0, 0) g2, hroom, by rw [hsize, Nat.zero_add, g10], _, rfl, .inl (by simp)⟩
        · -- a new block
          refine Good.pre hkill rfl ?_
          have holds : ∀ j v, (C.toList.take (es.length * te.size))[j]? = some v → c.w.cell? (q.add j) = some v := fun j v hj => by
            have hlt := (List.getElem?_eq_some_iff.1 hj).1
            simp at hlt
            rcases g11 with rfl | rfl
            · rw [Addr.add_plain, Nat.zero_mul, Nat.zero_add]
              rw [List.getElem?_take_of_lt (by omega)] at hj
              simp only [World.cell?, g2]
              simpa using hj
            · have : es.length = 0 := by omega
              rw [this] at hlt
              omega
          have hCl : es.length * te.size ≤ C.size := by rw [g3]; exact Nat.mul_le_mul_right _ g5
          have hr := run_append_grow (P := P) c.w t o.type e i z htt hi hz q es.length vc (C.toList.take (es.length * te.size)) (by rw [hs]; simp; omega) holds ad news.length scap vals (by rw [hvl, hs]) hcell (by omega) (by omega)
            (by rw [hbb]; exact growslice_fits (by omega) hby)
          obtain ⟨f1, f2⟩ := app_fin (c := c.kill b) (nx := nx) (nx' := nx') hkill.mem hidk e te.size (es := es) (news := news) (olds := C.toList.take (es.length * te.size)) (vals := vals) (zs := (Builtin.zeroCells z.cells (grownCap c.w (es.length + news.length) vc e - (es.length + news.length))).toList)
            (w' := c.w.drew.alloc (.cells ((C.toList.take (es.length * te.size)).toArray ++ vals.toArray ++ Builtin.zeroCells z.cells (grownCap c.w (es.length + news.length) vc e - (es.length + news.length))) e)) (G := grownCap c.w (es.length + news.length) vc e)
            g6 hlen' (by simp; omega) hvl (fun i hi j hj => by
              obtain ⟨u, hu1, hu2⟩ := g7 i hi j hj
              refine ⟨u, ?_, hu2.evo hke⟩
              have hj' : j < te.size := by rw [g6 i hi] at hj; exact hj
              have : (i + 1) * te.size ≤ es.length * te.size := Nat.mul_le_mul_right _ hi
              rw [Nat.add_mul] at this
              rw [List.getElem?_take_of_lt (by omega)]
              simpa using hu1) (fun i hi j hj => by obtain ⟨u, hu1, hu2⟩ := hrel i hi j hj; exact ⟨u, hu1, hu2.evo hke⟩) (by simp) (grownCap_ge _ _ _ _) (grownCap_le_maxLen _ _ _ _ (by simp only [maxLen]; omega))
            (by
              have := grownCap_ge c.w (es.length + news.length) vc e
              have h1 : (C.toList.take (es.length * te.size)).length = es.length * te.size := by simp; omega
              simp only [Array.length_toList, size_zeroCells, hzs, hvl, h1, ← Nat.add_mul]
              congr 1; omega) (Grew.drewAlloc _ _)
          exact Good.value (append_op ho (by rw [hvS, hv]; exact hr)) f1 f2

end Go.Abs
namespace Go.Abs
variable {P : Program} {T : Tbl} {c : Cx} {m : Mem}

def partsE (sz : Nat) : Nat → List (Nat × V) → Option (List (List V))
  | _, [] => some []
  | i, (j, x) :: r =>
    match x.cells with
    | some cs => if i = j ∧ cs.length = sz then (partsE sz (i + 1) r).map (cs :: ·) else none
    | none => none

theorem partsE_fill (sz : Nat) (place : Nat → Option (Nat × Nat)) (hplace : ∀ j, place j = some (j * sz, sz)) : ∀ (ps : List (Nat × V)) (vs : List (Nat × Value)) (i : Nat) (cells : Array Value) (es : List (List V)),
    partsE sz i ps = some es → (i + es.length) * sz ≤ cells.size → ps.length = vs.length →
    (∀ k (h : k < ps.length) (h' : k < vs.length), ps[k].1 = vs[k].1 ∧ Rel c ps[k].2 vs[k].2) →
    ∃ F, Instr.fill place cells vs = some F ∧ F.size = cells.size ∧ (∀ j, j < i * sz → F[j]? = cells[j]?) ∧ (∀ q (h : q < es.length), es[q].length = sz) ∧
      (∀ q (h : q < es.length) j (h' : j < es[q].length), ∃ u, F[(i + q) * sz + j]? = some u ∧ Rel c es[q][j] u) ∧ es.length = ps.length := by
  intro ps
  induction ps with
  | nil =>
    intro vs i cells es h hle hl hr
    simp only [partsE, Option.some.injEq] at h
    subst h
    cases vs with
    | nil => exact ⟨cells, rfl, rfl, fun _ _ => rfl, fun q hq => by simp at hq, fun q hq => by simp at hq, rfl⟩
    | cons => simp at hl
  | cons p ps ih =>
    intro vs i cells es h hle hl hr
    obtain ⟨j, x⟩ := p
    cases vs with
    | nil => simp at hl
    | cons q vs =>
      obtain ⟨j', v⟩ := q
      have h0 := hr 0 (by simp) (by simp)
      simp only [List.getElem_cons_zero] at h0
      obtain ⟨hj, hrel⟩ := h0
      subst hj
      simp only [partsE] at h
      split at h
      case h_2 => simp at h
      rename_i xs hxs
      split at h
      case isFalse => simp at h
      rename_i hcond
      obtain ⟨rfl, hlen⟩ := hcond
      obtain ⟨r, hr1, rfl⟩ := Option.map_eq_some_iff.1 h
      obtain ⟨hc1, hc2, hc3⟩ := hrel.cells hxs
      simp only [List.length_cons] at hle
      have e1 : (i + (r.length + 1)) * sz = i * sz + sz + r.length * sz := by simp only [Nat.add_mul, Nat.one_mul]; omega
      rw [fill_cons place cells i v vs (i * sz) sz (hplace i) (by omega) (by omega)]
      obtain ⟨F, hF, hsz, hlow, hl2, hhigh, hlen2⟩ := ih vs (i + 1) (segSet cells (i * sz) v.cells) r hr1 (by rw [segSet_size]; rw [show i + 1 + r.length = i + (r.length + 1) by omega]; exact hle) (by simpa using hl)
        (fun k h1 h2 => by
          have := hr (k + 1) (by simpa using h1) (by simpa using h2)
          simpa using this)
      have e2 : (i + 1) * sz = i * sz + sz := by rw [Nat.add_mul, Nat.one_mul]
      refine ⟨F, hF, by rw [hsz, segSet_size], fun k hk => ?_, fun q hq => ?_, fun q hq k hk => ?_, by simp [hlen2]⟩
      · rw [hlow k (by omega), segSet_get, if_neg (by omega)]
      · cases q with
        | zero => exact hlen
        | succ q => exact hl2 q (by simpa using hq)
      · cases q with
        | zero =>
          simp only [List.getElem_cons_zero] at hk ⊢
          refine ⟨v.cells[k], ?_, hc2 k hk (by omega)⟩
          rw [hlow _ (by simp only [Nat.add_zero]; omega), segSet_get, if_pos (by simp only [Nat.add_zero]; omega), Nat.add_zero, Nat.add_sub_cancel_left, Array.getElem?_eq_getElem]
        | succ q =>
          simp only [List.getElem_cons_succ] at hk ⊢
          obtain ⟨u, hu1, hu2⟩ := hhigh q (by simpa using hq) k hk
          exact ⟨u, by rw [show i + (q + 1) = i + 1 + q by omega]; exact hu1, hu2⟩

theorem run_bslice (w : World) {t e : Nat} {te : TI} {i : TypeInfo} {z : Value} (htt : P.underlying t = some (.slice e)) (hi : P.info? e = some i) (hs : i.size = te.size) (hz : i.zero = some z) (len : Nat)
    (parts : Array (Nat × Value)) (F : Array Value) (h24 : len * te.size ≤ 16777216)
    (hF : Instr.fill (fun i => some (i * te.size, te.size)) ((Array.range (len * te.size)).map (z.cells[· % z.cells.size]!)) parts.toList = some F) :
    (Instr.buildSlice t len parts).run P w = .ok (.slice (some ⟨w.heap.size, 0, none⟩) len len) (w.alloc (.cells F e)) := by
  have h1 : ¬ (len * te.size > 2 ^ 24) := by omega
  by_cases h0 : len * te.size = 0
  · have hF0 : Instr.fill (fun i => some (i * te.size, te.size)) ((Array.range (len * te.size)).map ((#[] : Array Value)[· % (#[] : Array Value).size]!)) parts.toList = some F := by
      rw [← hF]
      congr 1
      apply Array.ext
      · simp
      · intro q h1 _; simp at h1; omega
    simp only [Instr.buildSlice, Sem.run_bind, run_underlying htt, Result.andThen_ok, sizeOf, typeInfo, run_program, hi, Sem.run_pure, hs, h1, if_false, Sem.run_ite, h0, if_true, newRow, run_newObj]
    rw [h0] at hF0
    simp only [hF0, Sem.run_bind, run_newObj, Result.andThen_ok, Sem.run_pure]
    rfl
  · simp only [Instr.buildSlice, Sem.run_bind, run_underlying htt, Result.andThen_ok, sizeOf, typeInfo, run_program, hi, Sem.run_pure, hs, h1, if_false, Sem.run_ite, h0, zeroValue, hz, hF, newRow, run_newObj]
    rfl

theorem bslice_good {o : Oper} {a : Act} {id nx nx' : Nat} {t e : Nat} {te : TI} {len : Nat} {parts : Array (Nat × Operand)} {ev : Operand → V} {es : List (List V)} (hT : TblOk P T) (hm : MemRel c m) (hid : ¬ c.us id)
    (hev : ∀ x, Rel c (ev x) (a.eval x)) (ho : o.op = .buildSlice t len parts) (ht : (T.get t).map TI.k = some (.slice e)) (hte : T.get e = some te)
    (hes : partsE te.size 0 (parts.toList.map fun p => (p.1, ev p.2)) = some es) (hlen : len = es.length) (h24 : len * te.size ≤ 16777216) (hm63 : len ≤ maxLen) :
    Good P o a c (m.set id (.arr e te.size es)) id nx nx' (.msl te.size id 0 len) := by
  obtain ⟨htt, i, z, hi, hs, hbb, hz, hzs⟩ := appT hT ht hte
  obtain ⟨F, hF, hFs, _, hl2, hrel, _⟩ := partsE_fill (c := c) te.size (fun i => some (i * te.size, te.size)) (fun _ => rfl) _ (parts.toList.map fun p => (p.1, a.eval p.2)) 0
    ((Array.range (len * te.size)).map (z.cells[· % z.cells.size]!)) es hes (by simp [hlen]) (by simp) (fun k h1 h2 => by simpa using hev _)
  have hg := Grew.alloc c.w (.cells F e)
  have hevo := Cx.new_evo (fun _ => True) hm hid hg
  have hsize : F.size = len * te.size := by rw [hFs]; simp
  refine Good.value (v := .slice (some ⟨c.w.heap.size, 0, none⟩) len len) (c' := c.new id _ c.w.heap.size) ?_ (new_nxt hm hid hg (.inr ⟨c.w.heap.size, F, len, new_ρ, new_heap hg, hsize, hm63, by omega, hl2, fun q hq j hj => ?_, new_im hm⟩)) (.msl _ _ _ _ _ (.inr rfl) ?_)
  · have := run_bslice (P := P) c.w htt hi hs hz len (parts.map fun (i, x) => (i, a.eval x)) F h24 (by rw [← hF]; simp)
    simp only [execOp, ho, Sem.run_bind, this, Result.andThen_ok, Sem.run_pure]
    rfl
  · obtain ⟨u, hu1, hu2⟩ := hrel q hq j hj
    exact ⟨u, by simpa using hu1, hu2.evo hevo⟩
  · unfold MslOk
    rw [new_ρ]
    exact ⟨len, F, e, new_heap hg, Nat.le_refl _, by rw [hsize, Nat.zero_add], _, rfl, .inl (by simp)⟩

end Go.Abs
namespace Go.Abs
variable {P : Program} {T : Tbl} {c : Cx} {m : Mem}

theorem mkslice_good {o : Oper} {a : Act} {id nx nx' : Nat} {t e : Nat} {te : TI} {L C : Operand} {kl kc : IntKind} {n : Int} (hT : TblOk P T) (hm : MemRel c m) (hid : ¬ c.us id)
    (ho : o.op = .makeSlice t L C) (hL : a.eval L = .int kl n) (hC : a.eval C = .int kc n) (ht : (T.get t).map TI.k = some (.slice e)) (hte : T.get e = some te)
    (h0 : 0 ≤ n) (hs0 : 0 < te.size) (hby : te.bytes * n ≤ 281474976710656) (h63 : n ≤ 140737488355328) :
    Good P o a c (m.set id (.arr e te.size (List.replicate n.toNat (te.zero.map .at)))) id nx nx' (.msl te.size id 0 n.toNat) := by
  obtain ⟨htt, _⟩ := appT hT ht hte
  obtain ⟨⟨i, hi, hs, hbb, z, hz, hzc⟩, hlen, _⟩ := hT e te hte
  have hzs : z.cells.size = te.size := by rw [← hlen, ← hzc]; simp
  have hg := Grew.alloc c.w (.cells (madeCells z.cells (n.toNat * te.size)) e)
  have hr := run_make (P := P) c.w t e i z htt hi hz kl kc n n h0 (Int.le_refl _) (by rw [hbb]; exact hby) (by omega)
  rw [hs] at hr
  refine Good.value (v := .slice (some ⟨c.w.heap.size, 0, none⟩) n.toNat n.toNat) (c' := c.new id _ c.w.heap.size) ?_
    (new_nxt hm hid hg (.inr ⟨c.w.heap.size, _, n.toNat, new_ρ, new_heap hg, size_madeCells _ _, by simp only [maxLen]; omega, by simp, fun q hq => by simp [hlen], fun q hq j hj => ?_, new_im hm⟩)) (.msl _ _ _ _ _ (.inr rfl) ?_)
  · simp only [execOp, ho, Sem.run_bind, hL, hC, hr, Result.andThen_ok, Sem.run_pure]; rfl
  · simp only [List.getElem_replicate, List.length_map, List.length_replicate] at hj hq ⊢
    have hj' : j < te.size := by omega
    have hb : q * te.size + j < n.toNat * te.size := by
      have : (q + 1) * te.size ≤ n.toNat * te.size := Nat.mul_le_mul_right _ hq
      rw [Nat.add_mul] at this
      omega
    have e2 : (q * te.size + j) % te.size = j := by
      rw [Nat.mul_comm, Nat.mul_add_mod]
      exact Nat.mod_eq_of_lt hj'
    refine ⟨z.cells[j]'(by omega), ?_, ?_⟩
    · simp only [madeCells, Array.getElem?_map, Array.getElem?_range, hb, if_true, Option.map_some, hzs, e2]
      rw [getElem!_pos z.cells j (by omega)]
    · have : (te.zero.map V.at)[j]'(by simpa using hj) = .at (z.cells[j]'(by omega)) := by simp [← hzc]
      simp only [List.getElem_map] at this ⊢
      rw [this]
      exact .at _
  · unfold MslOk
    rw [new_ρ]
    exact ⟨n.toNat, _, e, new_heap hg, Nat.le_refl _, by rw [size_madeCells, Nat.zero_add], _, rfl, .inl (by simp)⟩

/-! ### Maps whose keys are whole numbers -/

theorem findNow_kvs (kk : IntKind) (z : Int) : ∀ (es : List MapEntry) (kvs : List (Int × Value)) (n : Nat), es.map (fun e => (e.key, e.val)) = kvs.map (fun p => (Value.int kk p.1, p.2)) →
    ∃ r, Instr.findNow (.int kk) (.int kk z) es n = some r ∧
      match r with
      | none => mget kvs z = none ∧ ∀ v, mset kvs z v = kvs ++ [(z, v)]
      | some (i, u) => n ≤ i ∧ mget kvs z = some u ∧ (∃ e, es[i - n]? = some e ∧ e.key = .int kk z) ∧
          ∀ v, (es.modify (i - n) fun e => { e with key := .int kk z, val := v }).map (fun e => (e.key, e.val)) = (mset kvs z v).map (fun p => (Value.int kk p.1, p.2)) := by
  intro es
  induction es with
  | nil =>
    intro kvs n h
    have : kvs = [] := by simpa using h.symm
    subst this
    exact ⟨none, rfl, rfl, fun v => rfl⟩
  | cons e es ih =>
    intro kvs n h
    cases kvs with
    | nil => simp at h
    | cons p kvs =>
      obtain ⟨y, u⟩ := p
      simp only [List.map_cons, List.cons.injEq, Prod.mk.injEq] at h
      obtain ⟨⟨h1, h2⟩, h3⟩ := h
      by_cases hy : y = z
      · subst hy
        refine ⟨some (n, e.val), ?_, Nat.le_refl _, by simp [mget, h2], ⟨e, by simp, h1⟩, fun v => ?_⟩
        · simp [Instr.findNow, Instr.sameNow, h1]
        · simp [mset, h3]
      · obtain ⟨r, hr, hr2⟩ := ih kvs (n + 1) h3
        have hz : (z == y) = false := by simp; exact fun e => hy e.symm
        refine ⟨r, ?_, ?_⟩
        · simp [Instr.findNow, Instr.sameNow, h1, hz, hr]
        · cases r with
          | none =>
            obtain ⟨g1, g2⟩ := hr2
            exact ⟨by simp [mget, hy, g1], fun v => by simp [mset, hy, g2]⟩
          | some q =>
            obtain ⟨i, w⟩ := q
            obtain ⟨g1, g2, ⟨e', g3, g4⟩, g5⟩ := hr2
            have hi : i - n = (i - (n + 1)) + 1 := by omega
            refine ⟨by omega, by simp [mget, hy, g2], ⟨e', by rw [hi]; simpa using g3, g4⟩, fun v => ?_⟩
            rw [hi]
            simp [mset, hy, g5, h1, h2]

theorem run_checkKey_int {kt : Nat} {kk : IntKind} (hk : P.underlying kt = some (.int kk)) (b : Bool) (n : Nat) (z : Int) (w : World) : (Instr.checkKey b (n + 1) kt (.int kk z)).run P w = .ok () w := by
  simp [Instr.checkKey, run_underlying hk]

theorem run_getObj_map (w : World) {k : Nat} {es : Array MapEntry} {clock : Nat} (h : w.heap[k]? = some (.map es clock)) : (getObj k).run P w = .ok (.map es clock) w := by
  simp [getObj, Sem.run, h]

structure MapT (P : Program) (T : Tbl) (t : Nat) (kk : IntKind) : Prop where
  h : ∃ kt et, P.underlying t = some (.map kt et) ∧ P.underlying kt = some (.int kk)
theorem mapT (hT : TblOk P T) {t kt et : Nat} {kk : IntKind} (ht : (T.get t).map TI.k = some (.map kt et)) (hk : (T.get kt).map TI.k = some (.int kk)) : P.underlying t = some (.map kt et) ∧ P.underlying kt = some (.int kk) := by
  obtain ⟨ti, hti, h1⟩ := Option.map_eq_some_iff.1 ht
  obtain ⟨tk, htk, h2⟩ := Option.map_eq_some_iff.1 hk
  have hu := (hT t ti hti).k
  have hv := (hT kt tk htk).k
  rw [h1] at hu
  rw [h2] at hv
  exact ⟨hu, hv⟩

/-- The context when a map is another. -/
def Cx.putMap (c : Cx) (k : Nat) (es : Array MapEntry) (clock : Nat) : Cx := { c with w := { c.w with heap := c.w.heap.setIfInBounds k (.map es clock) } }
theorem putMap_evo {k : Nat} {es es' : Array MapEntry} {clock clock' : Nat} {S : Nat → Prop} (hS : S k) (hk : c.w.heap[k]? = some (.map es clock)) (him : ∀ o, ¬ c.im k o) : Evo S c (c.putMap k es' clock') where
  os := rfl
  tape := rfl
  output := rfl
  size := by simp [Cx.putMap]
  keep := fun j D t fr h => by
    have e : j ≠ k := fun e => by subst e; rw [hk] at h; simp at h
    exact ⟨D, by simp only [Cx.putMap]; rw [Array.getElem?_setIfInBounds_ne (Ne.symm e)]; exact h, rfl⟩
  same := fun j hj hn => by
    have e : j ≠ k := fun e => hn (e ▸ hS)
    simp only [Cx.putMap]; rw [Array.getElem?_setIfInBounds_ne (Ne.symm e)]
  imm := fun j o h => by
    have e : j ≠ k := fun e => him o (e ▸ h)
    refine ⟨h, ?_⟩
    simp only [Cx.putMap, World.cell?]; rw [Array.getElem?_setIfInBounds_ne (Ne.symm e)]
  imold := fun _ _ h _ _ => h
  us := fun _ h => h
  ρ := fun _ _ => .inl rfl
theorem putMap_nxt {b k id nx nx' : Nat} {es es' : Array MapEntry} {clock clock' : Nat} {kk : IntKind} {kvs : List (Int × Value)} (hm : MemRel c m) (hb : c.ρ b = some (some k)) (hk : c.w.heap[k]? = some (.map es clock))
    (him : ∀ o, ¬ c.im k o) (hkv : es'.toList.map (fun e => (e.key, e.val)) = kvs.map (fun p => (Value.int kk p.1, p.2))) : Nxt c (c.putMap k es' clock') (m.set b (.map kk kvs)) id nx nx' where
  evo := putMap_evo ⟨b, hb⟩ hk him
  mem := {
    blk := fun x => by
      rw [Mem.get_set]
      by_cases h : x = b
      · subst h
        simp only [if_true]
        have hlt : k < c.w.heap.size := (Array.getElem?_eq_some_iff.1 hk).1
        exact ⟨k, es', clock', hb, by simp [Cx.putMap, hlt], hkv, him⟩
      · simp only [h, if_false]
        refine (hm.blk x).evo (putMap_evo (S := fun _ => True) trivial hk him) rfl (fun j hj => ⟨?_, fun o ho => ho⟩)
        have e : j ≠ k := fun e => h (hm.inj x b k (e ▸ hj) hb)
        simp only [Cx.putMap]; rw [Array.getElem?_setIfInBounds_ne (Ne.symm e)]
    inj := hm.inj
    big := hm.big
    imlt := fun j o h => by simpa [Cx.putMap] using hm.imlt j o h }
  fresh := fun x j h => .inl ⟨x, h⟩
  us := fun x h => .inl h

theorem mupd_good {o : Oper} {a : Act} {id nx nx' : Nat} {t kt et : Nat} {kk : IntKind} {M K X : Operand} {b : Nat} {kvs : List (Int × Value)} {z : Int} {v : Value} (hT : TblOk P T) (hm : MemRel c m)
    (ho : o.op = .mapUpdate t M K X) (hM : Rel c (.mp b) (a.eval M)) (hb : m.get b = some (.map kk kvs)) (hK : a.eval K = .int kk z) (hX : a.eval X = v)
    (ht : (T.get t).map TI.k = some (.map kt et)) (hk : (T.get kt).map TI.k = some (.int kk)) :
    Good P o a c (m.set b (.map kk (mset kvs z v))) id nx nx' (.at undef) := by
  obtain ⟨hut, huk⟩ := mapT hT ht hk
  have hblk := hm.blk b
  rw [hb] at hblk
  obtain ⟨k, es, clock, g1, g2, g3, g4⟩ := hblk
  generalize hv : a.eval M = vm at hM
  cases hM with
  | mp _ _ hus hok =>
    obtain rfl := hok.real g1
    obtain ⟨r, hr1, hr2⟩ := findNow_kvs kk z es.toList kvs 0 g3
    have hfind : (Instr.findKey kt (.int kk z) es.toList).run P c.w = .ok r c.w := by
      simp [Instr.findKey, run_underlying huk, hr1]
    have hlt : k < c.w.heap.size := (Array.getElem?_eq_some_iff.1 g2).1
    have hset : ∀ es' clock', (setObj k (.map es' clock')).run P c.w = .ok () (c.putMap k es' clock').w := fun es' clock' => by
      simp [setObj, Sem.run, g2, Cx.putMap]
    cases r with
    | none =>
      obtain ⟨q1, q2⟩ := hr2
      refine Good.skip (c' := c.putMap k (es.push { key := .int kk z, val := v, born := clock }) (clock + 1)) ?_ (putMap_nxt hm g1 g2 g4 (by rw [q2]; simp [g3]))
      simp only [execOp, ho, hv, hK, hX, Instr.mapUpdate, Sem.run_bind, run_underlying hut, Result.andThen_ok, run_getObj_map c.w g2, run_checkKey_int huk, hfind, hset, Sem.run_pure]
    | some q =>
      obtain ⟨i, u⟩ := q
      obtain ⟨_, q1, ⟨e, q2, q3⟩, q4⟩ := hr2
      simp only [Nat.sub_zero] at q2 q4
      have hkeep : (Instr.keyThatStays (((es[i]?).map (·.key)).getD (.int kk z)) (.int kk z)).run P c.w = .ok (.int kk z) c.w := by
        have : es[i]? = some e := by simpa using q2
        simp [this, q3, Instr.keyThatStays, Instr.sameBits]
      refine Good.skip (c' := c.putMap k (es.modify i fun e => { e with key := .int kk z, val := v }) clock) ?_ (putMap_nxt hm g1 g2 g4 (by rw [← q4]; simp))
      simp only [execOp, ho, hv, hK, hX, Instr.mapUpdate, Sem.run_bind, run_underlying hut, Result.andThen_ok, run_getObj_map c.w g2, run_checkKey_int huk, hfind, hkeep, hset, Sem.run_pure]

end Go.Abs
namespace Go.Abs
variable {P : Program} {T : Tbl} {c : Cx} {m : Mem}

/-- Values told of one another, a list of them. -/
def RelL (c : Cx) (xs : List V) (vs : Array Value) : Prop := xs.length = vs.size ∧ ∀ i (h : i < xs.length) (h' : i < vs.size), Rel c xs[i] vs[i]

/-- WHAT A FUNCTION COMES TO: called with such values over such blocks (those of 'mi', and no others, may it change), it returns 'x', and the blocks are then those of 'mo'. -/
def Sound (P : Program) (f : FuncId) (xs : List V) (nx : Nat) (mi : Mem) (x : V) (mo : Mem) (nx' : Nat) : Prop :=
  (∃ fn, P.funcs[f]? = some fn ∧ (fn.name == "runtime.NumGoroutine") = false ∧ fn.body.isNone = false) ∧
  ∀ (c : Cx) (vs : Array Value), MemRel c mi → (∀ b, c.us b → b < nx) → RelL c xs vs →
    Calls P f vs c.w fun e w' => ∃ v c', e = .returned v ∧ c'.w = w' ∧ Nxt c c' mo nx nx nx' ∧ (∀ b, c'.us b → c.us b ∨ (nx ≤ b ∧ b < nx')) ∧ Rel c' x v

/-- What a yield comes to: a round of the range over a function whose record is block b. -/
def SoundY (P : Program) (b : Nat) (xs : List V) (nx : Nat) (mi : Mem) (x : V) (mo : Mem) (nx' : Nat) : Prop :=
  (mi.get b).isSome = true ∧ ∀ (c : Cx) (vs : Array Value), MemRel c mi → (∀ b, c.us b → b < nx) → RelL c xs vs →
    ∃ k fn tmps asg body, c.ρ b = some (some k) ∧ (Instr.yield k vs).run P c.w = .ok (.round k fn tmps asg body) c.w ∧
      RoundIn (FW none) 0 P k fn tmps asg body c.w fun e w' => ∃ v c', e = .returned v ∧ c'.w = w' ∧ Nxt c c' mo nx nx nx' ∧ (∀ b, c'.us b → c.us b ∨ (nx ≤ b ∧ b < nx')) ∧ Rel c' x v
/-- What is called: a function, or a yield. -/
inductive FT where
  | f (f : FuncId)
  | y (b : Nat)
def SoundT (P : Program) (ft : FT) (xs : List V) (nx : Nat) (mi : Mem) (x : V) (mo : Mem) (nx' : Nat) : Prop :=
  match ft with
  | .f f => Sound P f xs nx mi x mo nx'
  | .y b => SoundY P b xs nx mi x mo nx'

/-- A context in which only some blocks are known. -/
def Cx.only (c : Cx) (K : Nat → Bool) (J : Nat → Nat → Prop) : Cx :=
  { w := c.w, im := fun k o => c.im k o ∨ J k o, ρ := fun b => if K b then c.ρ b else none, us := fun b => K b = true ∧ c.us b }

/-- The rows that are handed over for good: told as rows that nobody changes. -/
def mvV (m : Mem) (mv : List Nat) : V → V
  | .msl sz b off n =>
    if b ∈ mv then
      match m.get b with
      | some (.arr _ _ es) => .row sz ((es.drop off).take n)
      | _ => .msl sz b off n
    else .msl sz b off n
  | x => x
def ClE (es : List (List V)) : Prop := ∀ e ∈ es, ∀ x ∈ e, x.cl = true
def mvOk (m : Mem) (K : Nat → Bool) (mv : List Nat) : V → Prop
  | .msl sz b off n =>
    if b ∈ mv then
      match m.get b with
      | some (.arr _ s es) => s = sz ∧ off + n ≤ es.length ∧ ClE es
      | _ => False
    else K b = true
  | .aptr _ b _ _ => K b = true
  | .bptr b _ => K b = true
  | .mp b => K b = true
  | .yld b => K b = true
  | x => x.cl = true
/-- As far as a struct's cells, and what a function has captured. -/
def mvA (m : Mem) (mv : List Nat) : V → V
  | .agg cs => .agg (cs.map (mvV m mv))
  | .fn f a b => .fn f (a.map (mvV m mv)) (b.map (mvV m mv))
  | x => mvV m mv x
def mvAOk (m : Mem) (K : Nat → Bool) (mv : List Nat) : V → Prop
  | .agg cs => ∀ x ∈ cs, mvOk m K mv x
  | .fn _ a b => (∀ x ∈ a, mvOk m K mv x) ∧ ∀ x ∈ b, mvOk m K mv x
  | x => mvOk m K mv x

/-- The cells of the blocks that are handed over. -/
def mvIm (c : Cx) (mv : List Nat) (k : Nat) (_o : Nat) : Prop := ∃ b ∈ mv, c.ρ b = some (some k)

theorem only_cl_evo {K : Nat → Bool} {J : Nat → Nat → Prop} : Evo (fun _ => True) c.cl (c.only K J).cl where
  os := rfl
  tape := rfl
  output := rfl
  size := Nat.le_refl _
  keep := fun _ C _ _ h => ⟨C, h, rfl⟩
  same := fun _ _ _ => rfl
  imm := fun _ _ h => ⟨.inl h, rfl⟩
  imold := fun k o _ _ hS => absurd trivial hS
  us := fun _ h => h
  ρ := fun b h => h.elim

theorem mvV_rel {mv : List Nat} {K : Nat → Bool} (hm : MemRel c m) (hK : ∀ b ∈ mv, K b = false) {x : V} {v : Value} (h : Rel c x v) (hok : mvOk m K mv x) : Rel (c.only K (mvIm c mv)) (mvV m mv x) v := by
  have closed : x.cl = true → Rel (c.only K (mvIm c mv)) x v := fun hc => ((h.close hc).evo only_cl_evo).open
  cases x with
  | msl sz b off n =>
    by_cases hb : b ∈ mv
    · simp only [mvV, if_pos hb]
      simp only [mvOk, if_pos hb] at hok
      split at hok
      · rename_i ty s es hg
        obtain ⟨rfl, hle, hcl⟩ := hok
        cases h with
        | msl _ _ _ _ _ hus hms =>
          have hlen : ((es.drop off).take n).length = n := by simp; omega
          rcases hms.live hm hg with ⟨rfl, rfl, rfl, _, a, rfl⟩ | ⟨k, C, cap, vc, a, g1, g2, g3, g4, g5, g6, g7, g8, g9, g10, rfl, g11⟩
          · have := Rel.row (c := c.only K (mvIm c mv)) s [] a 0 0 0 (fun _ _ => undef) (by simp) (by simp) (by simp) (by simp) (by simp)
            simpa using this
          · have key := Rel.row (c := c.only K (mvIm c mv)) s ((es.drop off).take n) (some a) vc k (off * s) (fun i j => C.getD ((off + i) * s + j) undef) (by rw [hlen]; exact g9) (fun hpos => by
              rw [hlen] at hpos
              rcases g11 with rfl | rfl
              · rfl
              · omega) (fun i hi => by
              simp only [List.getElem_take, List.getElem_drop]
              exact g6 _ (by rw [hlen] at hi; omega)) (fun i hi j hj => by
              rw [hlen] at hi
              simp only [List.getElem_take, List.getElem_drop] at hj
              obtain ⟨u, hu, _⟩ := g7 (off + i) (by omega) j hj
              refine ⟨?_, .inr ⟨b, hb, g1⟩⟩
              show c.w.cell? _ = _
              simp only [World.cell?, g2]
              rw [← Nat.add_mul]
              simp [Array.getD_eq_getD_getElem?, hu]) (fun i hi j hj => by
              rw [hlen] at hi
              simp only [List.getElem_take, List.getElem_drop] at hj ⊢
              obtain ⟨u, hu, hur⟩ := g7 (off + i) (by omega) j hj
              have : C.getD ((off + i) * s + j) undef = u := by simp [Array.getD_eq_getD_getElem?, hu]
              rw [this]
              exact (hur.close (hcl _ (List.getElem_mem _) _ (List.getElem_mem _))).evo only_cl_evo)
            rw [hlen] at key
            exact key
      · exact hok.elim
    · simp only [mvV, if_neg hb]
      simp only [mvOk, if_neg hb] at hok
      cases h with
      | msl _ _ _ _ _ hus hms =>
        refine .msl _ _ _ _ _ ⟨hok, hus⟩ ?_
        unfold MslOk at hms ⊢
        rw [show (c.only K (mvIm c mv)).ρ b = c.ρ b by simp [Cx.only, hok]]
        exact hms
  | aptr sz b i off =>
    simp only [mvOk] at hok
    cases h with
    | aptr _ _ _ _ _ hus hp =>
      refine .aptr _ _ _ _ _ ⟨hok, hus⟩ ?_
      unfold PtrOk at hp ⊢
      rw [show (c.only K (mvIm c mv)).ρ b = c.ρ b by simp [Cx.only, hok]]
      exact hp
  | bptr b off =>
    simp only [mvOk] at hok
    cases h with
    | bptr _ _ _ hus hp =>
      refine .bptr _ _ _ ⟨hok, hus⟩ ?_
      unfold PtrOk at hp ⊢
      rw [show (c.only K (mvIm c mv)).ρ b = c.ρ b by simp [Cx.only, hok]]
      exact hp
  | mp b =>
    simp only [mvOk] at hok
    cases h with
    | mp _ _ hus hp =>
      refine .mp _ _ ⟨hok, hus⟩ ?_
      unfold MapOk at hp ⊢
      rw [show (c.only K (mvIm c mv)).ρ b = c.ρ b by simp [Cx.only, hok]]
      exact hp
  | yld b =>
    simp only [mvOk] at hok
    cases h with
    | yld _ _ hus hp =>
      refine .yld _ _ ⟨hok, hus⟩ ?_
      unfold YldOk at hp ⊢
      rw [show (c.only K (mvIm c mv)).ρ b = c.ρ b by simp [Cx.only, hok]]
      exact hp
  | _ => exact closed hok

theorem mvA_rel {mv : List Nat} {K : Nat → Bool} (hm : MemRel c m) (hK : ∀ b ∈ mv, K b = false) {x : V} {v : Value} (h : Rel c x v) (hok : mvAOk m K mv x) : Rel (c.only K (mvIm c mv)) (mvA m mv x) v := by
  cases x with
  | agg cs =>
    cases h with
    | agg _ vs hl hr =>
      refine .agg _ _ (by simpa using hl) (fun i h1 h2 => ?_)
      simp only [List.getElem_map]
      exact mvV_rel hm hK (hr i (by simpa using h1) h2) (hok _ (List.getElem_mem _))
  | fn f as bs =>
    cases h with
    | fn _ _ _ fs cs hl1 hl2 hr1 hr2 =>
      refine .fn f _ _ _ _ (by simpa using hl1) (by simpa using hl2) (fun i h1 h2 => ?_) (fun i h1 h2 => ?_)
      · simp only [List.getElem_map]
        exact mvV_rel hm hK (hr1 i (by simpa using h1) h2) (hok.1 _ (List.getElem_mem _))
      · simp only [List.getElem_map]
        exact mvV_rel hm hK (hr2 i (by simpa using h1) h2) (hok.2 _ (List.getElem_mem _))
  | _ => exact mvV_rel hm hK h hok

theorem ref_rel {K : Nat → Bool} {J : Nat → Nat → Prop} {x : V} {v : Value} (h : Rel c x v) (hok : refOk K x) : Rel (c.only K J) x v := by
  have closed : x.cl = true → Rel (c.only K J) x v := fun hc => ((h.close hc).evo only_cl_evo).open
  cases x with
  | msl sz b off n =>
    simp only [refOk] at hok
    cases h with
    | msl _ _ _ _ _ hus hms =>
      refine .msl _ _ _ _ _ ⟨hok, hus⟩ ?_
      unfold MslOk at hms ⊢
      rw [show (c.only K J).ρ b = c.ρ b by simp [Cx.only, hok]]
      exact hms
  | aptr sz b i off =>
    simp only [refOk] at hok
    cases h with
    | aptr _ _ _ _ _ hus hp =>
      refine .aptr _ _ _ _ _ ⟨hok, hus⟩ ?_
      unfold PtrOk at hp ⊢
      rw [show (c.only K J).ρ b = c.ρ b by simp [Cx.only, hok]]
      exact hp
  | bptr b off =>
    simp only [refOk] at hok
    cases h with
    | bptr _ _ _ hus hp =>
      refine .bptr _ _ _ ⟨hok, hus⟩ ?_
      unfold PtrOk at hp ⊢
      rw [show (c.only K J).ρ b = c.ρ b by simp [Cx.only, hok]]
      exact hp
  | mp b =>
    simp only [refOk] at hok
    cases h with
    | mp _ _ hus hp =>
      refine .mp _ _ ⟨hok, hus⟩ ?_
      unfold MapOk at hp ⊢
      rw [show (c.only K J).ρ b = c.ρ b by simp [Cx.only, hok]]
      exact hp
  | yld b =>
    simp only [refOk] at hok
    cases h with
    | yld _ _ hus hp =>
      refine .yld _ _ ⟨hok, hus⟩ ?_
      unfold YldOk at hp ⊢
      rw [show (c.only K J).ρ b = c.ρ b by simp [Cx.only, hok]]
      exact hp
  | _ => exact closed hok
theorem refA_rel {K : Nat → Bool} {J : Nat → Nat → Prop} {x : V} {v : Value} (h : Rel c x v) (hok : refOkA K x) : Rel (c.only K J) x v := by
  cases x with
  | agg cs =>
    cases h with
    | agg _ vs hl hr => exact .agg _ _ hl fun i h1 h2 => ref_rel (hr i h1 h2) (hok _ (List.getElem_mem _))
  | tup cs => exact hok.elim
  | fn f as bs =>
    cases h with
    | fn _ _ _ fs cs hl1 hl2 hr1 hr2 =>
      exact .fn f _ _ _ _ hl1 hl2 (fun i h1 h2 => ref_rel (hr1 i h1 h2) (hok.1 _ (List.getElem_mem _))) (fun i h1 h2 => ref_rel (hr2 i h1 h2) (hok.2 _ (List.getElem_mem _)))
  | _ => exact ref_rel h hok
def BlkOk (K : Nat → Bool) : Blk → Prop
  | .box _ cells => ∀ x ∈ cells, refOk K x
  | .arr _ _ es => ∀ e ∈ es, ∀ x ∈ e, refOk K x
  | .map _ _ => True
  | .loop rf _ _ => ∀ b ∈ rf, K b = true
theorem refOk_mono {K K' : Nat → Bool} (h : ∀ b, K b = true → K' b = true) {x : V} (hx : refOk K x) : refOk K' x := by
  cases x <;> simp only [refOk] at hx ⊢ <;> first | exact hx | exact h _ hx
theorem refOkA_mono {K K' : Nat → Bool} (h : ∀ b, K b = true → K' b = true) {x : V} (hx : refOkA K x) : refOkA K' x := by
  cases x with
  | agg cs => exact fun y hy => refOk_mono h (hx y hy)
  | tup cs => exact hx
  | fn f a b => exact ⟨fun y hy => refOk_mono h (hx.1 y hy), fun y hy => refOk_mono h (hx.2 y hy)⟩
  | _ => simp only [refOkA] at hx ⊢; exact refOk_mono h hx

def Mem.has (m : Mem) (b : Nat) : Bool := (m.get b).isSome
/-- The memory behind a call: the blocks that were lent are as the call left them, those handed over are gone, new ones have come. -/
def callMem (m mi : Mem) (mv : List Nat) (nx nx' : Nat) (mo : Mem) (b : Nat) : Option Blk :=
  if b < nx ∨ nx' ≤ b then (if mi.has b then mo.get b else if b ∈ mv then none else m.get b) else mo.get b

theorem us_of_get (hm : MemRel c m) {b : Nat} {blk : Blk} (h : m.get b = some blk) : c.us b := by
  rcases Classical.em (c.us b) with h1 | h1
  · exact h1
  · have := hm.big b h1
    have h2 := hm.blk b
    rw [h] at h2
    cases blk with
    | box => obtain ⟨k, C, h3, _⟩ := h2; rw [h3] at this; simp at this
    | arr => rcases h2 with ⟨_, h3⟩ | ⟨_, _, _, h3, _⟩ <;> rw [h3] at this <;> simp at this
    | map => obtain ⟨_, _, _, h3, _⟩ := h2; rw [h3] at this; simp at this
    | loop => obtain ⟨_, _, h3, _⟩ := h2; rw [h3] at this; simp at this


theorem has_iff {m : Mem} {b : Nat} : m.has b = true ↔ ∃ blk, m.get b = some blk := by
  simp [Mem.has, Option.isSome_iff_exists]

theorem only_mem {mi : Mem} {mv : List Nat} (hm : MemRel c m) (hsub : ∀ b blk, mi.get b = some blk → m.get b = some blk) (hmv : ∀ b ∈ mv, mi.has b = false)
    (hmi : ∀ b blk, mi.get b = some blk → BlkOk mi.has blk) : MemRel (c.only mi.has (mvIm c mv)) mi where
  blk := fun b => by
    cases hb : mi.get b with
    | none =>
      have : mi.has b = false := by simp [Mem.has, hb]
      simp [BlkRel, Cx.only, this]
    | some blk =>
      have hh : mi.has b = true := has_iff.2 ⟨blk, hb⟩
      have hρ : (c.only mi.has (mvIm c mv)).ρ b = c.ρ b := by simp [Cx.only, hh]
      have h := hm.blk b
      rw [hsub b blk hb] at h
      have hok := hmi b blk hb
      have him : ∀ k, c.ρ b = some (some k) → (∀ o, ¬ c.im k o) → ∀ o, ¬ (c.only mi.has (mvIm c mv)).im k o := fun k hk hn o ho => by
        rcases ho with ho | ⟨b', hb', hk'⟩
        · exact hn o ho
        · obtain rfl := hm.inj b' b k hk' hk
          rw [hmv b' hb'] at hh
          simp at hh
      cases blk with
      | box ty cells =>
        obtain ⟨k, C, h1, h2, h3, h4, h5⟩ := h
        exact ⟨k, C, by rw [hρ]; exact h1, h2, h3, fun j hj hj' => ref_rel (h4 j hj hj') (hok _ (List.getElem_mem hj)), him k h1 h5⟩
      | arr ty sz es =>
        rcases h with ⟨h1, h2⟩ | ⟨k, C, cap, h1, h2, h3, h4, h5, h6, h7, h8⟩
        · exact .inl ⟨h1, by rw [hρ]; exact h2⟩
        · refine .inr ⟨k, C, cap, by rw [hρ]; exact h1, h2, h3, h4, h5, h6, fun i hi j hj => ?_, him k h1 h8⟩
          obtain ⟨u, hu1, hu2⟩ := h7 i hi j hj
          exact ⟨u, hu1, ref_rel hu2 (hok _ (List.getElem_mem hi) _ (List.getElem_mem hj))⟩
      | map kk kvs =>
        obtain ⟨k, es, clock, h1, h2, h3, h4⟩ := h
        exact ⟨k, es, clock, by rw [hρ]; exact h1, h2, h3, him k h1 h4⟩
      | loop rf lc j =>
        obtain ⟨k, r, h1, h2, h3, h4, hrf, h5⟩ := h
        refine ⟨k, r, by rw [hρ]; exact h1, h2, h3, fun t => ?_, hrf, him k h1 h5⟩
        have := h4 t
        rcases tget_mem lc.t t with e | ⟨p, hp, _, e⟩
        · rw [e]; exact .junk _
        · rw [e] at this ⊢
          exact refA_rel this (refOkA_mono (fun b hb => hok b (by simpa using hb)) (hrf p hp))
  inj := fun b b' k h1 h2 => by
    have : ∀ b, (c.only mi.has (mvIm c mv)).ρ b = some (some k) → c.ρ b = some (some k) := fun b h => by
      simp only [Cx.only] at h
      split at h
      · exact h
      · simp at h
    exact hm.inj b b' k (this b h1) (this b' h2)
  big := fun b h => by
    simp only [Cx.only]
    split
    · rename_i hb
      exact hm.big b (fun e => h ⟨hb, e⟩)
    · rfl
  imlt := fun k o h => by
    rcases h with h | ⟨b', hb', hk'⟩
    · exact hm.imlt k o h
    · exact (hm.blk b').lt hk'

/-- The context behind a call. -/
def Cx.back (c c' : Cx) (K : Nat → Bool) (mv : List Nat) (nx nx' : Nat) : Cx :=
  { w := c'.w, im := c'.im, ρ := fun b => if b < nx ∨ nx' ≤ b then (if K b then c'.ρ b else if b ∈ mv then none else c.ρ b) else c'.ρ b, us := fun b => c.us b ∨ c'.us b }

theorem back_nxt {c' : Cx} {mi mo m' : Mem} {mv : List Nat} {id nx nx' : Nat} (hm : MemRel c m) (hnx : ∀ b, c.us b → b < nx ∨ nx' ≤ b)
    (hsub : ∀ b blk, mi.get b = some blk → m.get b = some blk)
    (hn : Nxt (c.only mi.has (mvIm c mv)) c' mo nx nx nx') (hus : ∀ b, c'.us b → (c.only mi.has (mvIm c mv)).us b ∨ (nx ≤ b ∧ b < nx')) (hm' : ∀ b, m'.get b = callMem m mi mv nx nx' mo b) :
    Nxt c (c.back c' mi.has mv nx nx') m' id nx nx' ∧ Evo (fun _ => True) c' (c.back c' mi.has mv nx nx') := by
  have hKus : ∀ b, mi.has b = true → c.us b := fun b h => by
    obtain ⟨blk, hb⟩ := has_iff.1 h
    exact us_of_get hm (hsub b blk hb)
  have hcc : ∀ b k, (c.only mi.has (mvIm c mv)).ρ b = some (some k) → mi.has b = true ∧ c.ρ b = some (some k) := fun b k h => by
    simp only [Cx.only] at h
    split at h
    · rename_i hb; exact ⟨hb, h⟩
    · simp at h
  have hρA : ∀ b, mi.has b = true → (c.back c' mi.has mv nx nx').ρ b = c'.ρ b := fun b h => by simp [Cx.back, h]
  have hρN : ∀ b, ¬ (b < nx ∨ nx' ≤ b) → (c.back c' mi.has mv nx nx').ρ b = c'.ρ b := fun b h => by simp [Cx.back, h]
  have hρM : ∀ b, (b < nx ∨ nx' ≤ b) → mi.has b = false → b ∈ mv → (c.back c' mi.has mv nx nx').ρ b = none := fun b h h1 h2 => by simp [Cx.back, h, h1, h2]
  have hρB : ∀ b, (b < nx ∨ nx' ≤ b) → mi.has b = false → b ∉ mv → (c.back c' mi.has mv nx nx').ρ b = c.ρ b := fun b h h1 h2 => by simp [Cx.back, h, h1, h2]
  have hevoc : Evo (fun k => ∃ b, c.ρ b = some (some k)) c (c.back c' mi.has mv nx nx') := {
    os := hn.evo.os
    tape := hn.evo.tape
    output := hn.evo.output
    size := hn.evo.size
    keep := hn.evo.keep
    same := fun k hk hS => hn.evo.same k hk fun ⟨b, hb⟩ => hS ⟨b, (hcc b k hb).2⟩
    imm := fun k o h => hn.evo.imm k o (.inl h)
    imold := fun k o h hk hS => by
      rcases hn.evo.imold k o h hk (fun ⟨b, hb⟩ => hS ⟨b, (hcc b k hb).2⟩) with h1 | ⟨b, _, hb⟩
      · exact h1
      · exact absurd ⟨b, hb⟩ hS
    us := fun b h => .inl h
    ρ := fun b h => by
      have hlt := hnx b h
      cases hK : mi.has b with
      | true =>
        rw [hρA b hK]
        rcases hn.evo.ρ b ⟨hK, h⟩ with h1 | h1
        · exact .inl (by rw [h1]; simp [Cx.only, hK])
        · exact .inr h1
      | false =>
        by_cases hv : b ∈ mv
        · exact .inr (hρM b hlt hK hv)
        · exact .inl (hρB b hlt hK hv) }
  have hevo' : Evo (fun _ => True) c' (c.back c' mi.has mv nx nx') := {
    os := rfl
    tape := rfl
    output := rfl
    size := Nat.le_refl _
    keep := fun _ C _ _ h => ⟨C, h, rfl⟩
    same := fun _ _ h => absurd trivial h
    imm := fun _ _ h => ⟨h, rfl⟩
    imold := fun _ _ h _ _ => h
    us := fun b h => .inr h
    ρ := fun b h => by
      rcases hus b h with ⟨hK, _⟩ | ⟨h1, _⟩
      · exact .inl (hρA b hK)
      · exact .inl (hρN b (by omega)) }
  have cat : ∀ b q, (c.back c' mi.has mv nx nx').ρ b = some q → (c'.ρ b = some q ∧ (mi.has b = true ∨ ¬ (b < nx ∨ nx' ≤ b))) ∨ (c.ρ b = some q ∧ (b < nx ∨ nx' ≤ b) ∧ mi.has b = false ∧ b ∉ mv) := fun b q h => by
    by_cases h1 : b < nx ∨ nx' ≤ b
    · cases hK : mi.has b with
      | true => rw [hρA b hK] at h; exact .inl ⟨h, .inl rfl⟩
      | false =>
        by_cases hv : b ∈ mv
        · rw [hρM b h1 hK hv] at h; simp at h
        · rw [hρB b h1 hK hv] at h; exact .inr ⟨h, h1, rfl, hv⟩
    · rw [hρN b h1] at h
      exact .inl ⟨h, .inr h1⟩
  refine ⟨⟨hevoc, ⟨fun b => ?_, fun b b' k h1 h2 => ?_, fun b h => ?_, hn.mem.imlt⟩, fun b k h => ?_, fun b h => ?_⟩, hevo'⟩
  · rw [hm' b]
    unfold callMem
    by_cases hlt : b < nx ∨ nx' ≤ b
    · rw [if_pos hlt]
      cases hK : mi.has b with
      | true =>
        rw [if_pos rfl]
        exact (hn.mem.blk b).evo hevo' (hρA b hK) (fun k _ => ⟨rfl, fun _ h => h⟩)
      | false =>
        rw [if_neg (by simp)]
        by_cases hv : b ∈ mv
        · rw [if_pos hv]
          exact hρM b hlt hK hv
        · rw [if_neg hv]
          refine (hm.blk b).evo hevoc (hρB b hlt hK hv) (fun k hk => ?_)
          have hkl := (hm.blk b).lt hk
          have hnot : ¬ ∃ b', (c.only mi.has (mvIm c mv)).ρ b' = some (some k) := fun ⟨b', hb'⟩ => by
            obtain ⟨h1, h2⟩ := hcc b' k hb'
            obtain rfl := hm.inj b' b k h2 hk
            rw [hK] at h1; simp at h1
          refine ⟨hn.evo.same k hkl hnot, fun o ho => ?_⟩
          rcases hn.evo.imold k o ho hkl hnot with h1 | ⟨b', hb', hk'⟩
          · exact h1
          · obtain rfl := hm.inj b' b k hk' hk
            exact absurd hb' hv
    · rw [if_neg hlt]
      exact (hn.mem.blk b).evo hevo' (hρN b hlt) (fun k _ => ⟨rfl, fun _ h => h⟩)
  · have mixed : ∀ b b', c'.ρ b = some (some k) → c.ρ b' = some (some k) → mi.has b' = false → False := fun b b' h1 h2 h3 => by
      rcases hn.fresh b k h1 with ⟨b'', hb''⟩ | hk
      · obtain ⟨g1, g2⟩ := hcc b'' k hb''
        obtain rfl := hm.inj b'' b' k g2 h2
        rw [h3] at g1; simp at g1
      · have := (hm.blk b').lt h2
        have hk' : c.w.heap.size ≤ k := hk
        omega
    rcases cat b _ h1 with ⟨g1, _⟩ | ⟨g1, _, g2, _⟩ <;> rcases cat b' _ h2 with ⟨q1, _⟩ | ⟨q1, _, q2, _⟩
    · exact hn.mem.inj b b' k g1 q1
    · exact (mixed b b' g1 q1 q2).elim
    · exact (mixed b' b q1 g1 g2).elim
    · exact hm.inj b b' k g1 q1
  · have h1 : ¬ c.us b := fun e => h (.inl e)
    have h2 : ¬ c'.us b := fun e => h (.inr e)
    cases hq : (c.back c' mi.has mv nx nx').ρ b with
    | none => rfl
    | some q =>
      rcases cat b q hq with ⟨g1, _⟩ | ⟨g1, _⟩
      · rw [hn.mem.big b h2] at g1; simp at g1
      · rw [hm.big b h1] at g1; simp at g1
  · rcases cat b _ h with ⟨g1, _⟩ | ⟨g1, _⟩
    · rcases hn.fresh b k g1 with ⟨b', hb'⟩ | hk
      · exact .inl ⟨b', (hcc b' k hb').2⟩
      · exact .inr hk
    · exact .inl ⟨b, g1⟩
  · rcases h with h | h
    · exact .inl h
    · rcases hus b h with ⟨_, h1⟩ | h1
      · exact .inl h1
      · exact .inr (.inr h1)

theorem call_good {o : Oper} {a : Act} {id nx nx' : Nat} {cl : Call} {fo : Operand} {f : FuncId} {first cap : List V} {ev : Operand → V} {mi mo m' : Mem} {mv : List Nat} {x : V} (hm : MemRel c m)
    (hnx : ∀ b, c.us b → b < nx ∨ nx' ≤ b) (hev : ∀ x, Rel c (ev x) (a.eval x)) (ho : o.op = .call cl) (hc : cl.callee = .value fo) (hf : ev fo = .fn (.func f) first cap)
    (hsub : ∀ b blk, mi.get b = some blk → m.get b = some blk) (hmv : ∀ b ∈ mv, mi.has b = false) (hmi : ∀ b blk, mi.get b = some blk → BlkOk mi.has blk ∧ b < nx)
    (hargs : ∀ y ∈ first ++ cl.args.toList.map ev ++ cap, mvAOk m mi.has mv y)
    (hs : Sound P f ((first ++ cl.args.toList.map ev ++ cap).map (mvA m mv)) nx mi x mo nx') (hm' : ∀ b, m'.get b = callMem m mi mv nx nx' mo b) :
    Good P o a c m' id nx nx' x := by
  obtain ⟨⟨fn, hfn, hname, hbody⟩, hcalls⟩ := hs
  intro ro next Q hnext
  have hfo := hev fo
  rw [hf] at hfo
  generalize hfv : a.eval fo = fv at hfo
  cases hfo with
  | fn _ _ _ fs cs hl1 hl2 hr1 hr2 =>
    have hrun : (execOp a.eval o).run P c.w = .ok (.enter f (fs ++ cl.args.map a.eval ++ cs)) c.w := by
      simp only [execOp, ho, resolve, hc, Deferred.ofValue, hfv, invoke, callFunc, Sem.run_bind, Sem.run_pure, Result.andThen_ok, run_program, hfn, hname, hbody, Bool.false_eq_true, if_false, Sem.run_ite]
    refine ⟨fun _ _ => trivial, ?_⟩
    rw [semAt_of ro hrun (fun d e => by cases e)]
    refine ⟨fun h => (by cases h), callsIn_FW ?_ ro⟩
    have hrel : ∀ i (h : i < (first ++ cl.args.toList.map ev ++ cap).length) (h' : i < (fs ++ cl.args.map a.eval ++ cs).size), Rel c (first ++ cl.args.toList.map ev ++ cap)[i] (fs ++ cl.args.map a.eval ++ cs)[i] := fun i h h' => by
      by_cases h1 : i < first.length
      · have e1 : (first ++ cl.args.toList.map ev ++ cap)[i] = first[i] := by
          rw [List.getElem_append_left (by simp; omega), List.getElem_append_left h1]
        have e2 : (fs ++ cl.args.map a.eval ++ cs)[i] = fs[i]'(by omega) := by
          rw [Array.getElem_append_left (by simp; omega), Array.getElem_append_left (by omega)]
        rw [e1, e2]
        exact hr1 i h1 (by omega)
      · by_cases h2 : i < first.length + cl.args.size
        · have e1 : (first ++ cl.args.toList.map ev ++ cap)[i] = ev (cl.args[i - first.length]'(by omega)) := by
            rw [List.getElem_append_left (by simp; omega), List.getElem_append_right (by omega)]
            simp
          have e2 : (fs ++ cl.args.map a.eval ++ cs)[i] = a.eval (cl.args[i - first.length]'(by omega)) := by
            rw [Array.getElem_append_left (by simp; omega), Array.getElem_append_right (by omega)]
            simp [hl1]
          rw [e1, e2]
          exact hev _
        · simp only [List.length_append, List.length_map, Array.length_toList] at h
          have e1 : (first ++ cl.args.toList.map ev ++ cap)[i] = cap[i - (first.length + cl.args.size)]'(by omega) := by
            rw [List.getElem_append_right (by simp; omega)]
            simp
          have e2 : (fs ++ cl.args.map a.eval ++ cs)[i] = cs[i - (first.length + cl.args.size)]'(by omega) := by
            rw [Array.getElem_append_right (by simp; omega)]
            simp [hl1]
          rw [e1, e2]
          exact hr2 _ (by omega) (by omega)
    have hcall := hcalls (c.only mi.has (mvIm c mv)) (fs ++ cl.args.map a.eval ++ cs) (only_mem hm hsub hmv fun b blk hb => (hmi b blk hb).1) (fun b hb => by obtain ⟨blk, h⟩ := has_iff.1 hb.1; exact (hmi b blk h).2) ⟨by simp [hl1, hl2], fun i h1 h2 => by
      simp only [List.getElem_map]
      exact mvA_rel hm hmv (hrel i (by simpa using h1) h2) (hargs _ (List.getElem_mem _))⟩
    refine Calls.mono hcall (fun e w' hpost => ?_)
    obtain ⟨v, c', rfl, rfl, hn, hus, hr⟩ := hpost
    obtain ⟨h1, h2⟩ := back_nxt (id := id) hm hnx hsub hn hus hm'
    exact hnext v (c.back c' mi.has mv nx nx') h1 (hr.evo h2)

theorem yield_good {o : Oper} {a : Act} {id nx nx' : Nat} {cl : Call} {fo : Operand} {b : Nat} {ev : Operand → V} {mi mo m' : Mem} {mv : List Nat} {x : V} (hm : MemRel c m)
    (hnx : ∀ b, c.us b → b < nx ∨ nx' ≤ b) (hev : ∀ x, Rel c (ev x) (a.eval x)) (ho : o.op = .call cl) (hc : cl.callee = .value fo) (hf : ev fo = .yld b)
    (hsub : ∀ b blk, mi.get b = some blk → m.get b = some blk) (hmv : ∀ b ∈ mv, mi.has b = false) (hmi : ∀ b blk, mi.get b = some blk → BlkOk mi.has blk ∧ b < nx)
    (hargs : ∀ y ∈ cl.args.toList.map ev, mvAOk m mi.has mv y)
    (hs : SoundY P b ((cl.args.toList.map ev).map (mvA m mv)) nx mi x mo nx') (hm' : ∀ b, m'.get b = callMem m mi mv nx nx' mo b) :
    Good P o a c m' id nx nx' x := by
  obtain ⟨hhas, hround⟩ := hs
  intro ro next Q hnext
  have hfo := hev fo
  rw [hf] at hfo
  generalize hfv : a.eval fo = fv at hfo
  cases hfo with
  | yld _ _ hus hy =>
    obtain ⟨k, fn, tmps, asg, body, hk, hyield, hR⟩ := hround (c.only mi.has (mvIm c mv)) (cl.args.map a.eval) (only_mem hm hsub hmv fun b blk hb => (hmi b blk hb).1) (fun b hb => by obtain ⟨blk, h⟩ := has_iff.1 hb.1; exact (hmi b blk h).2) ⟨by simp, fun i h1 h2 => by
      simp only [List.getElem_map]
      refine mvA_rel hm hmv ?_ (hargs _ (by simp only [List.mem_map]; exact ⟨_, List.getElem_mem (by simpa using h1), rfl⟩))
      have := hev (cl.args[i]'(by simpa using h1))
      simpa using this⟩
    have hk' : c.ρ b = some (some k) := by
      have : mi.has b = true := hhas
      simpa [Cx.only, this] using hk
    unfold YldOk at hy
    rw [hk'] at hy
    simp only at hy
    subst hy
    have hrun : (execOp a.eval o).run P c.w = .ok (.round k fn tmps asg body) c.w := by
      simp only [execOp, ho, resolve, hc, Deferred.ofValue, hfv, Sem.run_bind, Sem.run_pure, Result.andThen_ok, invoke, Array.empty_append]
      exact hyield
    refine ⟨fun _ _ => trivial, ?_⟩
    rw [semAt_of ro hrun (fun d e => by cases e)]
    refine ⟨fun h => (by cases h), RoundIn.mono (F := FW ro) ⟨trivial, hR.2⟩ (fun e w' hpost => ?_)⟩
    obtain ⟨v, c', rfl, rfl, hn, hus, hr⟩ := hpost
    obtain ⟨h1, h2⟩ := back_nxt (id := id) hm hnx hsub hn hus hm'
    exact hnext v (c.back c' mi.has mv nx nx') h1 (hr.evo h2)

end Go.Abs
namespace Go.Abs
variable {P : Program} {T : Tbl} {c : Cx} {m : Mem}

theorem zap_get {es : List (List V)} {off n sz : Nat} (hf : off + n ≤ es.length) (i : Nat) : (Ar.std.zap es off n sz)[i]? = if off ≤ i ∧ i < off + n then some (List.replicate sz .junk) else es[i]? := by
  show (es.take off ++ List.replicate n (List.replicate sz .junk) ++ es.drop (off + n))[i]? = _
  by_cases h1 : i < off
  · rw [if_neg (by omega), List.append_assoc, List.getElem?_append_left (by simp; omega), List.getElem?_take, if_pos h1]
  · by_cases h2 : i < off + n
    · rw [if_pos (by omega), List.getElem?_append_left (by simp; omega), List.getElem?_append_right (by simp; omega), List.getElem?_replicate, if_pos (by simp; omega)]
    · rw [if_neg (by omega), List.getElem?_append_right (by simp; omega), List.getElem?_drop]
      congr 1
      simp
      omega

/-- The elements of a row's part are cleared: what they are isn't told any more. -/
theorem clear_good {o : Oper} {a : Act} {id nx nx' : Nat} {t ty e : Nat} {te : TI} {S : Operand} {sz b off n : Nat} {es : List (List V)} (hT : TblOk P T) (hm : MemRel c m)
    (ho : o.op = .call { callee := .builtin .clear, args := #[S], argTypes := #[t] }) (hS : Rel c (.msl sz b off n) (a.eval S)) (hb : m.get b = some (.arr ty sz es)) (ht : (T.get t).map TI.k = some (.slice e)) (hte : T.get e = some te)
    (hsz : te.size = sz) (hf : off + n ≤ es.length) :
    Good P o a c (m.set b (.arr ty sz (Ar.std.zap es off n sz))) id nx nx' .junk := by
  obtain ⟨htt, i, z, hi, hs, _, hz, hzs⟩ := appT hT ht hte
  have hzlen : (Ar.std.zap es off n sz).length = es.length := by
    show (es.take off ++ List.replicate n (List.replicate sz V.junk) ++ es.drop (off + n)).length = _
    simp; omega
  have hzel : ∀ j (h : j < (Ar.std.zap es off n sz).length), (Ar.std.zap es off n sz)[j] = if off ≤ j ∧ j < off + n then List.replicate sz .junk else es[j]'(by omega) := fun j h => by
    have h1 := zap_get (sz := sz) hf j
    rw [List.getElem?_eq_getElem h] at h1
    rw [List.getElem?_eq_getElem (by omega : j < es.length)] at h1
    split at h1 <;> rename_i h2
    · rw [if_pos h2]; exact Option.some.inj h1
    · rw [if_neg h2]; exact Option.some.inj h1
  have hrun : ∀ {w' : World}, (Builtin.clear_ #[t] o.type #[a.eval S]).run P c.w = .ok (.tuple #[]) w' → (execOp a.eval o).run P c.w = .ok (.value (.tuple #[])) w' := fun h => by
    simp [execOp, ho, resolve, invoke, builtin, h]
  generalize hv : a.eval S = vs at hS hrun
  cases hS with
  | msl _ _ _ _ _ hus hms =>
    rcases hms.live hm hb with ⟨rfl, rfl, rfl, hρ, q, rfl⟩ | ⟨k, C, cap, vc, q, g1, g2, g3, g4, g5, g6, g7, g8, g9, g10, rfl, g11⟩
    · have he : Ar.std.zap [] 0 0 sz = [] := rfl
      rw [he]
      refine Good.value (hrun (by cases q <;> simp [Builtin.clear_, run_underlying htt])) ⟨Evo.refl _ _, ⟨fun x => ?_, hm.inj, hm.big, hm.imlt⟩, fun b k h => .inl ⟨b, h⟩, fun b h => .inl h⟩ (.junk _)
      rw [Mem.get_set]
      by_cases h : x = b
      · subst h; rw [if_pos rfl]; exact .inl ⟨rfl, hρ⟩
      · rw [if_neg h]; exact hm.blk x
    · rcases Nat.eq_zero_or_pos n with h0 | h0
      · subst h0
        have he : Ar.std.zap es off 0 sz = es := by
          show es.take off ++ [] ++ es.drop (off + 0) = es
          simp
        rw [he]
        refine Good.value (hrun (by simp [Builtin.clear_, run_underlying htt])) ⟨Evo.refl _ _, ⟨fun x => ?_, hm.inj, hm.big, hm.imlt⟩, fun b k h => .inl ⟨b, h⟩, fun b h => .inl h⟩ (.junk _)
        rw [Mem.get_set]
        by_cases h : x = b
        · subst h; rw [if_pos rfl, ← hb]; exact hm.blk x
        · rw [if_neg h]; exact hm.blk x
      · rcases g11 with rfl | rfl
        case inr => omega
        have hin : off * sz + n * sz ≤ C.size := by
          rw [← g10, ← Nat.add_mul]
          exact Nat.mul_le_mul_right _ (by omega)
        generalize hZ : (Builtin.zeroCells z.cells n).toList = Z
        have hZl : Z.length = n * sz := by rw [← hZ, Array.length_toList, size_zeroCells, hzs, hsz]
        have hone : ∀ u ∈ Z, u.oneCell' = true := fun u hu => by
          rw [← hZ] at hu
          simp only [Builtin.zeroCells, Array.toList_map, List.mem_map, Array.toList_range, List.mem_range] at hu
          obtain ⟨j, hj, rfl⟩ := hu
          have hpos : 0 < z.cells.size := by
            rcases Nat.eq_zero_or_pos z.cells.size with h | h
            · rw [h] at hj; omega
            · exact h
          obtain ⟨⟨i', hi', _, _, z', hz', hzc⟩, _, hone, _⟩ := hT e te hte
          rw [hi] at hi'
          obtain rfl := Option.some.inj hi'
          rw [hz] at hz'
          obtain rfl := Option.some.inj hz'
          refine hone _ ?_
          rw [← hzc]
          have : j % z.cells.size < z.cells.size := Nat.mod_lt _ hpos
          rw [getElem!_pos z.cells _ this]
          simp
        have hst := run_storeCells_at P k (off * sz) ty Z 0 C c.w g2 (by omega) hone
        simp only [Nat.add_zero] at hst
        have hcl : (Builtin.clear_ #[t] o.type #[.slice (some ⟨k, off * sz, none⟩) n vc]).run P c.w = .ok (.tuple #[]) (c.w.setRow k (C.toList.take (off * sz) ++ Z ++ C.toList.drop (off * sz + Z.length)).toArray) := by
          have hne : n ≠ 0 := by omega
          obtain ⟨n', rfl⟩ : ∃ n', n = n' + 1 := ⟨n - 1, by omega⟩
          have hzv : (zeroValue e).run P c.w = .ok z c.w := by simp [zeroValue, typeInfo, hi, hz]
          simp [Builtin.clear_, Sem.run_bind, run_underlying htt, Result.andThen_ok, hzv, hZ, hst, Sem.run_pure]
        have hsize : (C.toList.take (off * sz) ++ Z ++ C.toList.drop (off * sz + Z.length)).toArray.size = C.size := by simp; omega
        have hevo := Cx.put_evo (c := c) (b := b) (S := fun _ => True) trivial g2 hsize g8
        refine Good.value (c' := c.put k _) (hrun hcl) (put_nxt hm g1 g2 hsize g8 ?_) (.junk _)
        refine .inr ⟨k, _, cap, g1, setRow_heap c.w k C _ ty (0, 0) g2, by rw [hsize, g3], g4, by rw [hzlen]; exact g5, fun j hj => ?_, fun j hj q hq => ?_, g8⟩
        · rw [hzel j hj]
          split
          · simp
          · exact g6 j _
        · have hj' : j < es.length := by omega
          have hbd : j * sz + sz ≤ C.size := by
            rw [g3]
            have : (j + 1) * sz ≤ cap * sz := Nat.mul_le_mul_right _ (by omega)
            rwa [Nat.add_mul, Nat.one_mul] at this
          have e1 := hzel j hj
          by_cases h2 : off ≤ j ∧ j < off + n
          · rw [if_pos h2] at e1
            have hq' : q < sz := by rw [e1] at hq; simpa using hq
            have : (C.toList.take (off * sz) ++ Z ++ C.toList.drop (off * sz + Z.length)).toArray.size = C.size := hsize
            refine ⟨(C.toList.take (off * sz) ++ Z ++ C.toList.drop (off * sz + Z.length)).toArray[j * sz + q]'(by omega), Array.getElem?_eq_getElem _, ?_⟩
            simp only [e1, List.getElem_replicate]
            exact .junk _
          · rw [if_neg h2] at e1
            have hq' : q < es[j].length := by rw [e1] at hq; exact hq
            obtain ⟨u, hu, hur⟩ := g7 j hj' q hq'
            refine ⟨u, ?_, ?_⟩
            · rw [List.getElem?_toArray, up_get C.toList _ _ (by simp; omega)]
              have hqs : q < sz := by rw [g6 j hj'] at hq'; exact hq'
              have hne : ¬ (off * sz ≤ j * sz + q ∧ j * sz + q < off * sz + Z.length) := by
                intro ⟨q1, q2⟩
                rw [hZl] at q2
                rcases Nat.lt_or_ge j off with h | h
                · have : (j + 1) * sz ≤ off * sz := Nat.mul_le_mul_right _ h
                  rw [Nat.add_mul] at this
                  omega
                · have : (off + n) * sz ≤ j * sz := Nat.mul_le_mul_right _ (by omega)
                  rw [Nat.add_mul] at this
                  omega
              rw [if_neg hne]
              simpa using hu
            · simp only [e1]
              exact hur.evo hevo
end Go.Abs
namespace Go.Abs
variable {P : Program} {T : Tbl} {c : Cx} {m : Mem}

/-- An element of a row: a reckoning stops here. -/
inductive ElW (es : List (List V)) (z : Int) (K : List V → Prop) : Prop
  | mk (el : List V) : 0 ≤ z → es[z.toNat]? = some el → K el → ElW es z K
inductive ElN (es : List (List V)) (i : Nat) (K : List V → Prop) : Prop
  | mk (el : List V) : es[i]? = some el → K el → ElN es i K
/-- What must be so: a reckoning stops here. -/
inductive NeedW (p : Prop) (K : Prop) : Prop
  | mk : p → K → NeedW p K

/-- The memory's rows behind a call. -/
def callδ (mi : Mem) (mv : List Nat) (nx : Nat) (mo : Mem) : List (Nat × Option Blk) :=
  mi.map (fun p => (p.1, mo.get p.1)) ++ mv.map (fun b => (b, none)) ++ (mo.filter fun p => decide (nx ≤ p.1)).map fun p => (p.1, some p.2)

inductive CallW (P : Program) (f : FT) (xs : List V) (m : Mem) (nx : Nat) (K : V → List (Nat × Option Blk) → List Nat → Nat → Prop) : Prop
  | mk (mi mo : Mem) (mv : List Nat) (x : V) (nx' : Nat) : (∀ b blk, mi.get b = some blk → m.get b = some blk) → (∀ b ∈ mv, mi.has b = false ∧ b < nx) → (∀ b blk, mi.get b = some blk → BlkOk mi.has blk ∧ b < nx) →
      (∀ b, mo.has b = true → mi.has b = true ∨ (nx ≤ b ∧ b < nx')) → (∀ y ∈ xs, mvAOk m mi.has mv y) → SoundT P f (xs.map (mvA m mv)) nx mi x mo nx' →
      K x (callδ mi mv nx mo) (mi.map (·.1) ++ mv) nx' → CallW P f xs m nx K

abbrev KT := V → List (Nat × Option Blk) → List Nat → Nat → Prop

def oneW (es : List (List V)) : Prop := OneE es
def appK (A : Ar) (T : Tbl) (m : Mem) (id nx : Nat) (e : Nat) (S X : V) (K : KT) : Prop :=
  match T.get e with
  | none => False
  | some te =>
    if te.size = 0 ∨ te.bytes = 0 then False else
    match srcE A m te.size X with
    | none => False
    | some (news, rd) =>
      match S with
      | .msl sz b off n =>
        match m.get b with
        | some (.arr ty s es) =>
          if off = 0 ∧ sz = te.size ∧ s = te.size ∧ ty = e then
            NeedW (n = A.len es ∧ srcOk A m X ∧ OneE news ∧ A.room (A.nadd (A.len es) (A.len news)) te.bytes)
              (K (.msl te.size id 0 (A.nadd (A.len es) (A.len news))) [(id, some (.arr e te.size (A.app es news))), (b, none)] (b :: rd) (id + 1))
          else False
        | _ => False
      | .at (.slice none 0 0) => NeedW (srcOk A m X ∧ OneE news ∧ A.room (A.len news) te.bytes) (K (.msl te.size id 0 (A.len news)) [(id, some (.arr e te.size news))] rd (id + 1))
      | .cap0 => NeedW (srcOk A m X ∧ OneE news ∧ A.room (A.len news) te.bytes) (K (.msl te.size id 0 (A.len news)) [(id, some (.arr e te.size news))] rd (id + 1))
      | _ => False

def memK (A : Ar) (T : Tbl) (P : Program) (ev : Operand → V) (m : Mem) (id nx : Nat) (op : Op) (K : KT) : Prop :=
  match op with
  | .box t X =>
    match (ev X).cells with
    | some cs => K (.bptr id 0) [(id, some (.box t cs))] [] (id + 1)
    | none => False
  | .alloc t =>
    match T.get t with
    | some ti => K (.bptr id 0) [(id, some (.box t (ti.zero.map .at)))] [] (id + 1)
    | none => False
  | .makeMap t none =>
    match (T.get t).map TI.k with
    | some (.map kt _) =>
      match (T.get kt).map TI.k with
      | some (.int kk) => K (.mp id) [(id, some (.map kk []))] [] (id + 1)
      | _ => False
    | _ => False
  | .indexAddr t X I =>
    match (T.get t).map TI.k, ev I with
    | some (.slice e), .at (.int _ z) =>
      match T.get e with
      | none => False
      | some te =>
        match ev X with
        | .row sz es => if te.size = sz then ElW es z fun el => K (.eptr el 0) [] [] nx else False
        | .msl sz b off n =>
          match m.get b with
          | some (.arr _ s _) => if te.size = sz ∧ s = sz then NeedW (0 ≤ z ∧ z < n) (K (.aptr sz b (A.nadd off (A.toNat z)) 0) [] [b] nx) else False
          | _ => False
        | _ => False
    | _, _ => False
  | .load t X =>
    match T.get t with
    | none => False
    | some ti =>
      match ev X with
      | .aptr sz b i off =>
        match m.get b with
        | some (.arr _ s es) =>
          if s = sz then ElN es i fun el =>
            match ldC ti.k.ag ti.size off el with
            | some x => K x [] [b] nx
            | none => False
          else False
        | _ => False
      | _ => False
  | .store t Ad X =>
    match T.get t, (ev X).cells with
    | some ti, some xs =>
      match ev Ad with
      | .bptr b off =>
        match m.get b with
        | some (.box ty cells) =>
          match upC cells off xs with
          | some cells' => if ti.size = xs.length then K (.at undef) [(b, some (.box ty cells'))] [b] nx else False
          | none => False
        | _ => False
      | .aptr sz b i off =>
        match m.get b with
        | some (.arr ty s es) =>
          if s = sz ∧ ti.size = xs.length then ElN es i fun el =>
            match upC el off xs with
            | some el' => K (.at undef) [(b, some (.arr ty sz (A.upd es i el')))] [b] nx
            | none => False
          else False
        | _ => False
      | _ => False
    | _, _ => False
  | .build t ps =>
    match buildP T t (ps.toList.map fun p => (p.1, ev p.2)) with
    | some (x, _, _) => K x [] [] nx
    | none => False
  | .buildSlice t len ps =>
    match (T.get t).map TI.k with
    | some (.slice e) =>
      match T.get e with
      | none => False
      | some te =>
        match partsE te.size 0 (ps.toList.map fun p => (p.1, ev p.2)) with
        | some es => if len = es.length ∧ len * te.size ≤ 16777216 ∧ len ≤ 16777216 then K (.msl te.size id 0 len) [(id, some (.arr e te.size es))] [] (id + 1) else False
        | none => False
    | _ => False
  | .makeSlice t L C =>
    match (T.get t).map TI.k, ev L, ev C with
    | some (.slice e), .at (.int _ n), .at (.int _ n') =>
      match T.get e with
      | none => False
      | some te => if te.size = 0 then False else NeedW (n' = n ∧ 0 ≤ n ∧ te.bytes * n ≤ 281474976710656 ∧ n ≤ 140737488355328)
          (K (.msl te.size id 0 (A.toNat n)) [(id, some (.arr e te.size (A.rep (A.toNat n) (te.zero.map .at))))] [] (id + 1))
    | _, _, _ => False
  | .mapUpdate t M Ky X =>
    match (T.get t).map TI.k, ev M, ev Ky, ev X with
    | some (.map kt _), .mp b, .at (.int k z), .at v =>
      match (T.get kt).map TI.k, m.get b with
      | some (.int kk), some (.map kk' kvs) => if kk' = kk ∧ k = kk then K (.at undef) [(b, some (.map kk (A.mput kvs z v)))] [b] nx else False
      | _, _ => False
    | _, _, _, _ => False
  | .call c =>
    match c.callee with
    | .value fo =>
      match ev fo with
      | .fn (.func f) first cap => CallW P (.f f) (first ++ c.args.toList.map ev ++ cap) m nx K
      | .yld b => CallW P (.y b) (c.args.toList.map ev) m nx K
      | _ => False
    | .builtin .append =>
      match c.args.toList, c.argTypes.toList with
      | [S, X], [t, t'] =>
        match (T.get t).map TI.k with
        | some (.slice e) => if t' = t then appK A T m id nx e (ev S) (ev X) K else False
        | _ => False
      | _, _ => False
    | .builtin .clear =>
      match c.args.toList, c.argTypes.toList with
      | [S], [t] =>
        match (T.get t).map TI.k, ev S with
        | some (.slice e), .msl sz b off n =>
          match T.get e, m.get b with
          | some te, some (.arr ty s es) => if te.size = sz ∧ s = sz then NeedW (A.fits off n (A.len es)) (K .junk [(b, some (.arr ty sz (A.zap es off n sz)))] [b] nx) else False
          | _, _ => False
        | _, _ => False
      | _, _ => False
    | _ => False
  | _ => False

/-- WHAT AN OPERATION COMES TO, over values without memory. -/
def opK (A : Ar) (T : Tbl) (P : Program) (ev : Operand → V) (m : Mem) (id nx : Nat) (op : Op) (K : KT) : Prop :=
  match pureP A T ev m op with
  | some (x, rd, p) => NeedW p (K x [] rd nx)
  | none => memK A T P ev m id nx op K


theorem dget_none_of {δ : List (Nat × Option Blk)} {b : Nat} (h : ∀ p ∈ δ, p.1 ≠ b) : dget δ b = none := by
  induction δ with
  | nil => rfl
  | cons p r ih =>
    obtain ⟨i, o⟩ := p
    have : b ≠ i := fun e => h (i, o) (by simp) e.symm
    simp only [dget, if_neg this]
    exact ih fun p hp => h p (by simp [hp])
theorem dget_append (δ δ' : List (Nat × Option Blk)) (b : Nat) : dget (δ ++ δ') b = (dget δ b).or (dget δ' b) := by
  induction δ with
  | nil => simp [dget]
  | cons p r ih =>
    obtain ⟨i, o⟩ := p
    simp only [List.cons_append, dget]
    by_cases h : b = i <;> simp [h, ih]
theorem dget_mi (mi mo : Mem) (b : Nat) : dget (mi.map fun p => (p.1, mo.get p.1)) b = if mi.has b then some (mo.get b) else none := by
  induction mi with
  | nil => simp [dget, Mem.has, Mem.get]
  | cons p r ih =>
    obtain ⟨i, o⟩ := p
    simp only [List.map_cons, dget, Mem.has, Mem.get]
    by_cases h : b = i
    · simp [h]
    · simp only [if_neg h]
      rw [ih]
      rfl
theorem dget_mv (mv : List Nat) (b : Nat) : dget (mv.map fun b => (b, (none : Option Blk))) b = if b ∈ mv then some none else none := by
  induction mv with
  | nil => simp [dget]
  | cons p r ih =>
    simp only [List.map_cons, dget, List.mem_cons]
    by_cases h : b = p <;> simp [h, ih]
theorem dget_mo (mo : Mem) (nx b : Nat) : dget ((mo.filter fun p => decide (nx ≤ p.1)).map fun p => (p.1, some p.2)) b = if nx ≤ b then (mo.get b).map some else none := by
  induction mo with
  | nil => simp [dget, Mem.get]
  | cons p r ih =>
    obtain ⟨i, o⟩ := p
    by_cases hi : nx ≤ i
    · simp only [List.filter_cons, hi, decide_true, if_true, List.map_cons, dget, Mem.get]
      by_cases h : b = i
      · subst h; simp [hi]
      · simp only [if_neg h, ih]
    · simp only [List.filter_cons, hi, decide_false, Bool.false_eq_true, if_false, Mem.get, ih]
      by_cases h : b = i
      · subst h; simp [hi]
      · simp only [if_neg h]

theorem callδ_get (hm : MemRel c m) {mi mo : Mem} {mv : List Nat} {nx nx' : Nat} (hnx : ∀ b, c.us b → b < nx ∨ nx' ≤ b) (hmi : ∀ b blk, mi.get b = some blk → b < nx) (hmv : ∀ b ∈ mv, mi.has b = false ∧ b < nx)
    (hmo : ∀ b, mo.has b = true → mi.has b = true ∨ (nx ≤ b ∧ b < nx')) (b : Nat) : (m.app (callδ mi mv nx mo)).get b = callMem m mi mv nx nx' mo b := by
  rw [Mem.get_app]
  unfold callδ callMem
  rw [dget_append, dget_append, dget_mi, dget_mv, dget_mo]
  by_cases hlt : b < nx
  · have hlt' : b < nx ∨ nx' ≤ b := .inl hlt
    rw [if_pos hlt', if_neg (show ¬ nx ≤ b by omega)]
    cases hK : mi.has b with
    | true => simp
    | false =>
      by_cases hv : b ∈ mv
      · simp [hv]
      · simp [hv]
  · rw [if_pos (show nx ≤ b by omega)]
    have hK : mi.has b = false := by
      cases h : mi.has b with
      | false => rfl
      | true =>
        obtain ⟨blk, hb⟩ := has_iff.1 h
        exact absurd (hmi b blk hb) hlt
    have hv : b ∉ mv := fun h => hlt (hmv b h).2
    simp only [hK, Bool.false_eq_true, if_false, hv, Option.or_none, Option.none_or]
    by_cases hge : nx' ≤ b
    · have hlt' : b < nx ∨ nx' ≤ b := .inr hge
      rw [if_pos hlt']
      cases h : mo.get b with
      | none => simp
      | some blk =>
        rcases hmo b (by simp [Mem.has, h]) with h1 | h1
        · rw [hK] at h1; simp at h1
        · omega
    · rw [if_neg (by omega)]
      have hmn : m.get b = none := by
        cases h : m.get b with
        | none => rfl
        | some blk => exact absurd (hnx b (us_of_get hm h)) (by omega)
      cases h : mo.get b with
      | none => simp [hmn]
      | some blk => simp

theorem opK_good (hT : TblOk P T) (hm : MemRel c m) {id nx : Nat} (hid : ¬ c.us id) {a : Act} {ev : Operand → V} (hev : ∀ x, Rel c (ev x) (a.eval x)) {o : Oper} {K : KT} (hnx : ∀ x δ rd nx', K x δ rd nx' → ∀ b, c.us b → b < nx ∨ nx' ≤ b)
    (h : opK Ar.std T P ev m id nx o.op K) : ∃ x δ rd nx', K x δ rd nx' ∧ Good P o a c (m.app δ) id nx nx' x := by
  unfold opK at h
  split at h
  · rename_i x rd p hp
    cases h with
    | mk h1 h2 => exact ⟨x, [], rd, nx, h2, pure_good hT hm hev hp h1⟩
  · unfold memK at h
    split at h <;> rename_i heq
    · -- box
      split at h
      · rename_i cs hcs
        exact ⟨_, _, _, _, h, box_good hm hid heq (hev _) hcs⟩
      · exact h.elim
    · split at h
      · rename_i ti hti
        exact ⟨_, _, _, _, h, alloc_good hT hm hid heq hti⟩
      · exact h.elim
    · split at h
      · split at h
        · rename_i kk _
          exact ⟨_, _, _, _, h, mkmap_good kk hm hid heq⟩
        · exact h.elim
      · exact h.elim
    · -- indexAddr
      rename_i t X I
      split at h
      · rename_i e k z ht hI
        split at h
        · exact h.elim
        rename_i te hte
        have hIv : a.eval I = .int k z := by have := hev I; rw [hI] at this; exact this.at_inv
        split at h
        · rename_i sz es hX
          split at h
          · rename_i hsz
            cases h with
            | mk el h0 hel hK => exact ⟨_, _, _, _, hK, idxRow_good hT hm heq (by rw [← hX]; exact hev X) hIv ht hte hsz h0 hel⟩
          · exact h.elim
        · rename_i sz b off n hX
          split at h
          · rename_i ty s es hb
            split at h
            · rename_i hsz
              obtain ⟨hsz, rfl⟩ := hsz
              cases h with
              | mk h0 hK => exact ⟨_, _, _, _, hK, idxMsl_good hT hm heq (by rw [← hX]; exact hev X) hb hIv ht hte hsz h0.1 h0.2⟩
            · exact h.elim
          · exact h.elim
        · exact h.elim
      · exact h.elim
    · -- load
      rename_i t X
      split at h
      · exact h.elim
      rename_i ti hti
      split at h
      · rename_i sz b i off hX
        split at h
        · rename_i ty s es hb
          split at h
          · rename_i hs
            subst hs
            cases h with
            | mk el hel hK =>
              split at hK
              · rename_i x hx
                exact ⟨_, _, _, _, hK, ldArr_good hT hm heq (by rw [← hX]; exact hev X) hb hti hel hx⟩
              · exact hK.elim
          · exact h.elim
        · exact h.elim
      · exact h.elim
    · -- store
      rename_i t Ad X
      split at h
      · rename_i ti xs hti hxs
        split at h
        · rename_i b off hA
          split at h
          · rename_i ty cells hb
            split at h
            · rename_i cells' hup
              split at h
              · rename_i hsz
                exact ⟨_, _, _, _, h, stBox_good hT hm heq (by rw [← hA]; exact hev Ad) (hev X) hb hxs hti hsz hup⟩
              · exact h.elim
            · exact h.elim
          · exact h.elim
        · rename_i sz b i off hA
          split at h
          · rename_i ty s es hb
            split at h
            · rename_i hs
              obtain ⟨rfl, hsz⟩ := hs
              cases h with
              | mk el hel hK =>
                split at hK
                · rename_i el' hup
                  exact ⟨_, _, _, _, hK, stArr_good hT hm heq (by rw [← hA]; exact hev Ad) (hev X) hb hxs hti hsz hel hup⟩
                · exact hK.elim
            · exact h.elim
          · exact h.elim
        · exact h.elim
      · exact h.elim
    · -- build
      rename_i t ps
      split at h
      · rename_i x rd p hb
        obtain ⟨ps⟩ := ps
        refine ⟨_, _, _, _, h, ?_⟩
        obtain ⟨v, h1, h2⟩ := build_sound (P := P) hT (vs := ps.map fun p => (p.1, a.eval p.2)) hb (by simp) (fun k h1 h2 => by simpa using hev _) c.w
        exact Good.value (v := v) (c' := c) (by simp [execOp, heq, h1]) (Nxt.refl hm) h2
      · exact h.elim
    · -- buildSlice
      rename_i t len ps
      split at h
      · rename_i e ht
        split at h
        · exact h.elim
        rename_i te hte
        split at h
        · rename_i es hes
          split at h
          · rename_i hc
            exact ⟨_, _, _, _, h, bslice_good hT hm hid hev heq ht hte hes hc.1 hc.2.1 (by simp only [maxLen]; omega)⟩
          · exact h.elim
        · exact h.elim
      · exact h.elim
    · -- makeSlice
      rename_i t L C
      split at h
      · rename_i e kl n kc n' ht hL hC
        split at h
        · exact h.elim
        rename_i te hte
        split at h
        · exact h.elim
        rename_i hs0
        cases h with
        | mk hp hK =>
          obtain ⟨rfl, h0, h1, h2⟩ := hp
          have hLv : a.eval L = .int kl n' := by have := hev L; rw [hL] at this; exact this.at_inv
          have hCv : a.eval C = .int kc n' := by have := hev C; rw [hC] at this; exact this.at_inv
          exact ⟨_, _, _, _, hK, mkslice_good hT hm hid heq hLv hCv ht hte h0 (by omega) h1 h2⟩
      · exact h.elim
    · -- mapUpdate
      rename_i t M Ky X
      split at h
      · rename_i kt et b k z v ht hM hKy hX
        split at h
        · rename_i kk kk' kvs hkt hb
          split at h
          · rename_i hk
            obtain ⟨rfl, rfl⟩ := hk
            have hKv : a.eval Ky = .int k z := by have := hev Ky; rw [hKy] at this; exact this.at_inv
            have hXv : a.eval X = v := by have := hev X; rw [hX] at this; exact this.at_inv
            exact ⟨_, _, _, _, h, mupd_good hT hm heq (by rw [← hM]; exact hev M) hb hKv hXv ht hkt⟩
          · exact h.elim
        · exact h.elim
      · exact h.elim
    · -- calls
      rename_i cl
      split at h
      · rename_i fo hfo
        split at h
        · rename_i f first cap hf
          cases h with
          | mk mi mo mv x nx' h1 h2 h3 h4 h5 h6 h7 =>
            exact ⟨_, _, _, _, h7, call_good hm (hnx _ _ _ _ h7) hev heq hfo hf h1 (fun b hb => (h2 b hb).1) h3 h5 h6 (callδ_get hm (hnx _ _ _ _ h7) (fun b blk hb => (h3 b blk hb).2) h2 h4)⟩
        · rename_i b hf
          cases h with
          | mk mi mo mv x nx' h1 h2 h3 h4 h5 h6 h7 =>
            exact ⟨_, _, _, _, h7, yield_good hm (hnx _ _ _ _ h7) hev heq hfo hf h1 (fun b hb => (h2 b hb).1) h3 h5 h6 (callδ_get hm (hnx _ _ _ _ h7) (fun b blk hb => (h3 b blk hb).2) h2 h4)⟩
        · exact h.elim
      · rename_i hcl
        obtain ⟨callee, args, argTypes⟩ := cl
        simp only at hcl h
        subst hcl
        obtain ⟨args⟩ := args
        obtain ⟨argTypes⟩ := argTypes
        simp only at h
        split at h
        · rename_i S X t t'
          split at h
          · rename_i e ht
            split at h
            · rename_i htt
              subst htt
              unfold appK at h
              split at h
              · exact h.elim
              rename_i te hte
              split at h
              · exact h.elim
              rename_i h0
              split at h
              · exact h.elim
              rename_i news rd hsrc
              split at h
              · rename_i sz b off n hS
                split at h
                · rename_i ty s es hb
                  split at h
                  · rename_i hc
                    obtain ⟨rfl, rfl, rfl, rfl⟩ := hc
                    cases h with
                    | mk hp hK =>
                      obtain ⟨rfl, q1, q2, q3⟩ := hp
                      exact ⟨_, _, _, _, hK, app_good hT hm hid heq (by have := hev S; rw [hS] at this; exact this) hb (hev X) ht hte (by omega) (by omega) hsrc q1 q2 q3⟩
                  · exact h.elim
                · exact h.elim
              · rename_i hS
                cases h with
                | mk hp hK =>
                  obtain ⟨q1, q2, q3⟩ := hp
                  exact ⟨_, _, _, _, hK, appNil_good hT hm hid heq ⟨none, by have := hev S; rw [hS] at this; exact this.at_inv⟩ (hev X) ht hte (by omega) (by omega) hsrc q1 q2 q3⟩
              · rename_i hS
                cases h with
                | mk hp hK =>
                  obtain ⟨q1, q2, q3⟩ := hp
                  refine ⟨_, _, _, _, hK, appNil_good hT hm hid heq ?_ (hev X) ht hte (by omega) (by omega) hsrc q1 q2 q3⟩
                  have := hev S
                  rw [hS] at this
                  generalize a.eval S = vs at this
                  cases this
                  exact ⟨_, rfl⟩
              · exact h.elim
            · exact h.elim
          · exact h.elim
        · exact h.elim
      · rename_i hcl
        obtain ⟨callee, args, argTypes⟩ := cl
        simp only at hcl h
        subst hcl
        obtain ⟨args⟩ := args
        obtain ⟨argTypes⟩ := argTypes
        simp only at h
        split at h
        · rename_i S t
          split at h
          · rename_i e sz b off n ht hS
            split at h
            · rename_i te ty s es hte hb
              split at h
              · rename_i hsz
                obtain ⟨rfl, rfl⟩ := hsz
                cases h with
                | mk hp hK => exact ⟨_, _, _, _, hK, clear_good hT hm heq (by have := hev S; rw [hS] at this; exact this) hb ht hte rfl hp⟩
              · exact h.elim
            · exact h.elim
          · exact h.elim
        · exact h.elim
      · exact h.elim
    · exact h.elim

end Go.Abs
namespace Go.Abs
variable {P : Program} {T : Tbl} {A : Ar}

theorem map_ev {ev ev' : Operand → V} {xs : Array Operand} (h : ∀ X ∈ xs, ev' X = ev X) : xs.toList.map ev' = xs.toList.map ev :=
  List.map_congr_left fun x hx => h x (by simpa using hx)
theorem pairs_ev {ev ev' : Operand → V} {ps : Array (Nat × Operand)} (h : ∀ X ∈ (ps.toList.map (·.2)).toArray, ev' X = ev X) : (ps.toList.map fun p => (p.1, ev' p.2)) = ps.toList.map fun p => (p.1, ev p.2) :=
  List.map_congr_left fun x hx => by
    rw [h x.2 (by simp only [List.mem_toArray, List.mem_map]; exact ⟨x, hx, rfl⟩)]

theorem pureP_ev {ev ev' : Operand → V} {m : Mem} {op : Op} (h : ∀ X ∈ op.operands, ev' X = ev X) : pureP A T ev' m op = pureP A T ev m op := by
  cases op <;> simp only [pureP]
  case move x => rw [h x (by simp [Op.operands])]
  case assign x => rw [h x (by simp [Op.operands])]
  case pick a b c => rw [h a (by simp [Op.operands]), h b (by simp [Op.operands]), h c (by simp [Op.operands])]
  case load t x => rw [h x (by simp [Op.operands])]
  case nilCheck x => rw [h x (by simp [Op.operands])]
  case binOp o t x y u => rw [h x (by simp [Op.operands]), h y (by simp [Op.operands])]
  case unOp o t x => rw [h x (by simp [Op.operands])]
  case convert s d x => rw [h x (by simp [Op.operands])]
  case makeFunc f a b =>
    rw [map_ev (xs := a) fun X hX => h X (by simp [Op.operands, hX]), map_ev (xs := b) fun X hX => h X (by simp [Op.operands, hX])]
  case fieldAddr t x f => rw [h x (by simp [Op.operands])]
  case field t x f => rw [h x (by simp [Op.operands])]
  case extract x i => rw [h x (by simp [Op.operands])]
  case index t x i => rw [h x (by simp [Op.operands]), h i (by simp [Op.operands])]
  case call c => rw [map_ev (xs := c.args) fun X hX => h X (by simp [Op.operands, Call.operands, hX])]
  case slice t x lo hi mx =>
    have o : ∀ z : Option Operand, (∀ X, z = some X → ev' X = ev X) → z.map ev' = z.map ev := fun z hz => by cases z <;> simp_all
    rw [h x (by simp [Op.operands]), o lo fun X hX => h X (by simp [Op.operands, hX]), o hi fun X hX => h X (by simp [Op.operands, hX]), o mx fun X hX => h X (by simp [Op.operands, hX])]

theorem memK_ev {ev ev' : Operand → V} {m : Mem} {id nx : Nat} {op : Op} {K : KT} (h : ∀ X ∈ op.operands, ev' X = ev X) : memK A T P ev' m id nx op K = memK A T P ev m id nx op K := by
  cases op <;> simp only [memK]
  case box t x => rw [h x (by simp [Op.operands])]
  case makeMap t r => cases r <;> rfl
  case load t x => rw [h x (by simp [Op.operands])]
  case indexAddr t x i => rw [h x (by simp [Op.operands]), h i (by simp [Op.operands])]
  case store t x y => rw [h x (by simp [Op.operands]), h y (by simp [Op.operands])]
  case build t ps => rw [pairs_ev fun X hX => h X hX]
  case buildSlice t n ps => rw [pairs_ev fun X hX => h X hX]
  case makeSlice t l k => rw [h l (by simp [Op.operands]), h k (by simp [Op.operands])]
  case mapUpdate t a b c => rw [h a (by simp [Op.operands]), h b (by simp [Op.operands]), h c (by simp [Op.operands])]
  case call c =>
    have h1 := map_ev (xs := c.args) fun X hX => h X (by simp [Op.operands, Call.operands, hX])
    split
    · rename_i fo hc
      rw [h fo (by simp [Op.operands, Call.operands, hc]), h1]
    · rename_i hc
      split
      · rename_i S X t t' ha _
        rw [h S (by simp [Op.operands, Call.operands, ← Array.mem_toList_iff, ha]), h X (by simp [Op.operands, Call.operands, ← Array.mem_toList_iff, ha])]
      · rfl
    · split
      · rename_i S t ha _
        rw [h S (by simp [Op.operands, Call.operands, ← Array.mem_toList_iff, ha])]
      · rfl
    · rfl

/-- As it was, at these blocks. -/
abbrev Sm (m m' : Mem) (rd : List Nat) : Prop := ∀ b ∈ rd, m'.get b = m.get b

theorem pureP_m {ev : Operand → V} {m m' : Mem} {op : Op} {x : V} {rd : List Nat} {p : Prop} (h : pureP A T ev m op = some (x, rd, p)) (hm : Sm m m' rd) : pureP A T ev m' op = some (x, rd, p) := by
  cases op <;> simp only [pureP] at h ⊢ <;> try exact h
  case load t X =>
    unfold loadP at h ⊢
    split at h
    · simp at h
    · split at h
      · exact h
      · rename_i b off _
        split at h
        · rename_i hb
          obtain ⟨x', hx', he⟩ := Option.map_eq_some_iff.1 h
          simp only [Prod.mk.injEq] at he
          obtain ⟨rfl, rfl, rfl⟩ := he
          rw [hm b (by simp), hb]
          simp only [hx', Option.map_some]
        · simp at h
      · simp at h
  case nilCheck X =>
    unfold nilP at h ⊢
    split at h
    · exact h
    · split at h
      · rename_i hb
        simp only [Option.some.injEq, Prod.mk.injEq] at h
        obtain ⟨rfl, rfl, rfl⟩ := h
        rw [hm _ (by simp), hb]
      · simp at h
    · split at h
      · rename_i hb
        simp only [Option.some.injEq, Prod.mk.injEq] at h
        obtain ⟨rfl, rfl, rfl⟩ := h
        rw [hm _ (by simp), hb]
      · simp at h
    · exact h
    · simp at h
  case fieldAddr t X f =>
    unfold fldP at h ⊢
    split at h
    · split at h
      · split at h
        · split at h
          · simp at h
          · rename_i h0
            rw [if_neg h0]
            split at h
            · exact h
            · split at h
              · rename_i hb
                simp only [Option.some.injEq, Prod.mk.injEq] at h
                obtain ⟨rfl, rfl, rfl⟩ := h
                rw [hm _ (by simp), hb]
              · simp at h
            · split at h
              · rename_i hb
                simp only [Option.some.injEq, Prod.mk.injEq] at h
                obtain ⟨rfl, rfl, rfl⟩ := h
                rw [hm _ (by simp), hb]
              · simp at h
            · simp at h
        · simp at h
      · simp at h
    · simp at h
  case call c =>
    unfold biP at h ⊢
    split at h
    · split at h
      · unfold lenP at h ⊢
        split at h <;> try exact h
        · split at h
          · rename_i hb
            simp only [Option.some.injEq, Prod.mk.injEq] at h
            obtain ⟨rfl, rfl, rfl⟩ := h
            rw [hm _ (by simp), hb]
          · simp at h
        · split at h
          · rename_i hb
            simp only [Option.some.injEq, Prod.mk.injEq] at h
            obtain ⟨rfl, rfl, rfl⟩ := h
            rw [hm _ (by simp), hb]
          · simp at h
      · exact h
      · exact h
      · simp at h
    · simp at h
  case slice t X lo hi mx =>
    unfold sliceP at h ⊢
    split at h
    · split at h
      · simp at h
      · split at h
        · split at h
          · rename_i hz
            simp only [hz, if_true]
            split at h
            · exact h
            · exact h
            · exact h
            · split at h
              · rename_i hb
                simp only [Option.some.injEq, Prod.mk.injEq] at h
                obtain ⟨rfl, rfl, rfl⟩ := h
                rw [hm _ (by simp), hb]
              · simp at h
            · simp at h
          · simp at h
        · split at h
          · exact h
          · split at h
            · rename_i hb
              split at h
              · rename_i hl hh
                split at h
                · rename_i hc
                  simp only [Option.some.injEq, Prod.mk.injEq] at h
                  obtain ⟨rfl, rfl, rfl⟩ := h
                  rw [hm _ (by simp), hb]
                  simp only [hl, hh, hc, and_self, if_true]
                · simp at h
              · simp at h
            · simp at h
          · simp at h
    · simp at h


/-- That and nothing else. -/
def EqK (x : V) (δ : List (Nat × Option Blk)) (rd : List Nat) (nx' : Nat) : KT := fun y δ' rd' n => y = x ∧ δ' = δ ∧ rd' = rd ∧ n = nx'
theorem EqK.rfl' {x : V} {δ : List (Nat × Option Blk)} {rd : List Nat} {nx' : Nat} : EqK x δ rd nx' x δ rd nx' := ⟨rfl, rfl, rfl, rfl⟩

theorem srcE_m {m m' : Mem} {sz : Nat} {X : V} {es : List (List V)} {rd : List Nat} (h : srcE A m sz X = some (es, rd)) (hm : Sm m m' rd) : srcE A m' sz X = some (es, rd) ∧ (srcOk A m X → srcOk A m' X) := by
  unfold srcE at h ⊢
  split at h
  · exact ⟨h, fun h => h⟩
  · rename_i b _ _
    split at h
    · rename_i hb
      split at h
      · rename_i hc
        simp only [Option.some.injEq, Prod.mk.injEq] at h
        obtain ⟨rfl, rfl⟩ := h
        have hb' := hm b (by simp)
        refine ⟨by rw [hb', hb]; simp only [hc, and_self, if_true], ?_⟩
        unfold srcOk
        simp only [hb', imp_self]
      · simp at h
    · simp at h
  · exact ⟨h, fun h => h⟩
  · exact ⟨h, fun h => h⟩
  · simp at h

theorem appK_m {m : Mem} {id nx e : Nat} {S X : V} {K : KT} (h : appK A T m id nx e S X K) :
    ∃ x δ rd nx', K x δ rd nx' ∧ ∀ m', Sm m m' rd → appK A T m' id nx e S X (EqK x δ rd nx') := by
  unfold appK at h
  split at h
  · exact h.elim
  rename_i te hte
  split at h
  · exact h.elim
  rename_i h0
  split at h
  · exact h.elim
  rename_i news rd hsrc
  split at h
  · rename_i sz b off n
    split at h
    · rename_i ty s es hb
      split at h
      · rename_i hc
        cases h with
        | mk hp hK =>
          refine ⟨_, _, _, _, hK, fun m' hm => ?_⟩
          obtain ⟨g1, g2⟩ := srcE_m hsrc (fun b' hb' => hm b' (by simp [hb']))
          have gb := hm b (by simp)
          unfold appK
          simp only [hte, h0, g1, gb, hb, if_false]
          rw [if_pos hc]
          exact .mk ⟨hp.1, g2 hp.2.1, hp.2.2⟩ .rfl'
      · exact h.elim
    · exact h.elim
  · cases h with
    | mk hp hK =>
      refine ⟨_, _, _, _, hK, fun m' hm => ?_⟩
      obtain ⟨g1, g2⟩ := srcE_m hsrc hm
      unfold appK
      simp only [hte, h0, g1, if_false]
      exact .mk ⟨g2 hp.1, hp.2⟩ .rfl'
  · cases h with
    | mk hp hK =>
      refine ⟨_, _, _, _, hK, fun m' hm => ?_⟩
      obtain ⟨g1, g2⟩ := srcE_m hsrc hm
      unfold appK
      simp only [hte, h0, g1, if_false]
      exact .mk ⟨g2 hp.1, hp.2⟩ .rfl'
  · exact h.elim

theorem mvV_m {m m' : Mem} {mv : List Nat} (hm : Sm m m' mv) (x : V) : mvV m' mv x = mvV m mv x := by
  cases x <;> simp only [mvV]
  split
  · rename_i h; rw [hm _ h]
  · rfl
theorem mvA_m {m m' : Mem} {mv : List Nat} (hm : Sm m m' mv) (x : V) : mvA m' mv x = mvA m mv x := by
  have h : mvV m' mv = mvV m mv := funext (mvV_m hm)
  cases x <;> simp only [mvA, h]
theorem mvOk_m {m m' : Mem} {K : Nat → Bool} {mv : List Nat} (hm : Sm m m' mv) (x : V) : mvOk m' K mv x = mvOk m K mv x := by
  cases x <;> simp only [mvOk]
  split
  · rename_i h; rw [hm _ h]
  · rfl
theorem mvAOk_m {m m' : Mem} {K : Nat → Bool} {mv : List Nat} (hm : Sm m m' mv) (x : V) : mvAOk m' K mv x = mvAOk m K mv x := by
  have h : mvOk m' K mv = mvOk m K mv := funext (mvOk_m hm)
  cases x <;> simp only [mvAOk, h]

theorem CallW_m {f : FT} {xs : List V} {m : Mem} {nx : Nat} {K : KT} (h : CallW P f xs m nx K) :
    ∃ x δ rd nx', K x δ rd nx' ∧ ∀ m', Sm m m' rd → CallW P f xs m' nx (EqK x δ rd nx') := by
  cases h with
  | mk mi mo mv x nx' h1 h2 h3 h4 h5 h6 h7 =>
    refine ⟨_, _, _, _, h7, fun m' hm => ?_⟩
    have hv : Sm m m' mv := fun b hb => hm b (by simp [hb])
    have hi : ∀ b, mi.has b = true → m'.get b = m.get b := fun b hb => hm b (by
      simp only [List.mem_append, List.mem_map]
      left
      clear h1 h2 h3 h4 h5 h6 h7 hm hv
      induction mi with
      | nil => simp [Mem.has, Mem.get] at hb
      | cons p r ih =>
        obtain ⟨j, y⟩ := p
        by_cases e : b = j
        · exact ⟨(j, y), by simp, e.symm⟩
        · have : Mem.has r b = true := by simpa [Mem.has, Mem.get, e] using hb
          obtain ⟨q, hq, he⟩ := ih this
          exact ⟨q, by simp [hq], he⟩)
    refine .mk mi mo mv x nx' (fun b blk hb => by rw [hi b (has_iff.2 ⟨blk, hb⟩)]; exact h1 b blk hb) h2 h3 h4 (fun y hy => by rw [mvAOk_m hv]; exact h5 y hy) (by rw [show mvA m' mv = mvA m mv from funext (mvA_m hv)]; exact h6) .rfl'

theorem memK_m {ev : Operand → V} {m : Mem} {id nx : Nat} {op : Op} {K : KT} (hp : pureP A T ev m op = none) (h : memK A T P ev m id nx op K) :
    ∃ x δ rd nx', K x δ rd nx' ∧ ∀ m', Sm m m' rd → pureP A T ev m' op = none ∧ memK A T P ev m' id nx op (EqK x δ rd nx') := by
  unfold memK at h
  split at h
  · split at h
    · rename_i hcs
      exact ⟨_, _, _, _, h, fun m' hm => ⟨rfl, by simp only [memK, hcs]; exact .rfl'⟩⟩
    · exact h.elim
  · split at h
    · rename_i hti
      exact ⟨_, _, _, _, h, fun m' hm => ⟨rfl, by simp only [memK, hti]; exact .rfl'⟩⟩
    · exact h.elim
  · split at h
    · rename_i ht
      split at h
      · rename_i hk
        exact ⟨_, _, _, _, h, fun m' hm => ⟨rfl, by simp only [memK, ht, hk]; exact .rfl'⟩⟩
      · exact h.elim
    · exact h.elim
  · split at h
    · rename_i ht hI
      split at h
      · exact h.elim
      rename_i te hte
      split at h
      · rename_i hX
        split at h
        · rename_i hsz
          cases h with
          | mk el h0 hel hK => exact ⟨_, _, _, _, hK, fun m' hm => ⟨rfl, by simp only [memK, ht, hI, hte, hX]; rw [if_pos hsz]; exact .mk el h0 hel .rfl'⟩⟩
        · exact h.elim
      · rename_i b _ _ hX
        split at h
        · rename_i hb
          split at h
          · rename_i hsz
            cases h with
            | mk h0 hK => exact ⟨_, _, _, _, hK, fun m' hm => ⟨rfl, by have gb := hm b (by simp); simp only [memK, ht, hI, hte, hX, gb, hb]; rw [if_pos hsz]; exact .mk h0 .rfl'⟩⟩
          · exact h.elim
        · exact h.elim
      · exact h.elim
    · exact h.elim
  · split at h
    · exact h.elim
    rename_i hti
    split at h
    · rename_i b _ _ hX
      split at h
      · rename_i hb
        split at h
        · rename_i hs
          cases h with
          | mk el hel hK =>
            split at hK
            · rename_i hx
              exact ⟨_, _, _, _, hK, fun m' hm => ⟨by simp only [pureP, loadP, hti, hX], by have gb := hm b (by simp); simp only [memK, hti, hX, gb, hb]; rw [if_pos hs]; refine .mk el hel ?_; simp only [hx]; exact .rfl'⟩⟩
            · exact hK.elim
        · exact h.elim
      · exact h.elim
    · exact h.elim
  · split at h
    · rename_i hti hxs
      split at h
      · rename_i b _ hA
        split at h
        · rename_i hb
          split at h
          · rename_i hup
            split at h
            · rename_i hsz
              exact ⟨_, _, _, _, h, fun m' hm => ⟨rfl, by have gb := hm b (by simp); simp only [memK, hti, hxs, hA, gb, hb, hup]; rw [if_pos hsz]; exact .rfl'⟩⟩
            · exact h.elim
          · exact h.elim
        · exact h.elim
      · rename_i b _ _ hA
        split at h
        · rename_i hb
          split at h
          · rename_i hs
            cases h with
            | mk el hel hK =>
              split at hK
              · rename_i hup
                exact ⟨_, _, _, _, hK, fun m' hm => ⟨rfl, by have gb := hm b (by simp); simp only [memK, hti, hxs, hA, gb, hb]; rw [if_pos hs]; refine .mk el hel ?_; simp only [hup]; exact .rfl'⟩⟩
              · exact hK.elim
          · exact h.elim
        · exact h.elim
      · exact h.elim
    · exact h.elim
  · split at h
    · rename_i hb
      exact ⟨_, _, _, _, h, fun m' hm => ⟨rfl, by simp only [memK, hb]; exact .rfl'⟩⟩
    · exact h.elim
  · split at h
    · rename_i ht
      split at h
      · exact h.elim
      rename_i hte
      split at h
      · rename_i hes
        split at h
        · rename_i hc
          exact ⟨_, _, _, _, h, fun m' hm => ⟨rfl, by simp only [memK, ht, hte, hes]; rw [if_pos hc]; exact .rfl'⟩⟩
        · exact h.elim
      · exact h.elim
    · exact h.elim
  · split at h
    · rename_i ht hL hC
      split at h
      · exact h.elim
      rename_i hte
      split at h
      · exact h.elim
      rename_i hs0
      cases h with
      | mk hp hK => exact ⟨_, _, _, _, hK, fun m' hm => ⟨rfl, by simp only [memK, ht, hL, hC, hte]; rw [if_neg hs0]; exact .mk hp .rfl'⟩⟩
    · exact h.elim
  · split at h
    · rename_i b _ _ _ ht hM hKy hX
      split at h
      · rename_i hkt hb
        split at h
        · rename_i hk
          exact ⟨_, _, _, _, h, fun m' hm => ⟨rfl, by have gb := hm b (by simp); simp only [memK, ht, hM, hKy, hX, hkt, gb, hb]; rw [if_pos hk]; exact .rfl'⟩⟩
        · exact h.elim
      · exact h.elim
    · exact h.elim
  · rename_i cl
    split at h
    · rename_i fo hc
      split at h
      · rename_i f first cap hf
        obtain ⟨x, δ, rd, nx', hK, hm'⟩ := CallW_m h
        exact ⟨x, δ, rd, nx', hK, fun m' hm => ⟨by simp only [pureP, biP, hc], by simp only [memK, hc, hf]; exact hm' m' hm⟩⟩
      · rename_i b hf
        obtain ⟨x, δ, rd, nx', hK, hm'⟩ := CallW_m h
        exact ⟨x, δ, rd, nx', hK, fun m' hm => ⟨by simp only [pureP, biP, hc], by simp only [memK, hc, hf]; exact hm' m' hm⟩⟩
      · exact h.elim
    · rename_i hc
      split at h
      · rename_i S X t t' ha hat
        split at h
        · rename_i ht
          split at h
          · rename_i htt
            obtain ⟨x, δ, rd, nx', hK, hm'⟩ := appK_m h
            exact ⟨x, δ, rd, nx', hK, fun m' hm => ⟨by simp only [pureP, biP, hc], by simp only [memK, hc, ha, hat, ht]; rw [if_pos htt]; exact hm' m' hm⟩⟩
          · exact h.elim
        · exact h.elim
      · exact h.elim
    · rename_i hc
      split at h
      · rename_i S t ha hat
        split at h
        · rename_i b _ _ ht hS
          split at h
          · rename_i hte hb
            split at h
            · rename_i hsz
              cases h with
              | mk hp hK => exact ⟨_, _, _, _, hK, fun m' hm => ⟨by simp only [pureP, biP, hc], by have gb := hm b (by simp); simp only [memK, hc, ha, hat, ht, hS, hte, gb, hb]; rw [if_pos hsz]; exact .mk hp .rfl'⟩⟩
            · exact h.elim
          · exact h.elim
        · exact h.elim
      · exact h.elim
    · exact h.elim
  · exact h.elim

/-- An operation looks at its operands and at the blocks that it names, at nothing else. -/
theorem opK_loc {ev : Operand → V} {m : Mem} {id nx : Nat} {op : Op} {K : KT} (h : opK A T P ev m id nx op K) :
    ∃ x δ rd nx', K x δ rd nx' ∧ ∀ ev' m', (∀ X ∈ op.operands, ev' X = ev X) → Sm m m' rd → opK A T P ev' m' id nx op (EqK x δ rd nx') := by
  unfold opK at h
  split at h
  · rename_i x rd p hp
    cases h with
    | mk h1 h2 =>
      refine ⟨x, [], rd, nx, h2, fun ev' m' he hm => ?_⟩
      unfold opK
      rw [pureP_ev he, pureP_m hp hm]
      exact .mk h1 .rfl'
  · rename_i hp
    obtain ⟨x, δ, rd, nx', hK, hh⟩ := memK_m hp h
    refine ⟨x, δ, rd, nx', hK, fun ev' m' he hm => ?_⟩
    obtain ⟨g1, g2⟩ := hh m' hm
    unfold opK
    rw [pureP_ev he, g1]
    simp only
    rw [memK_ev he]
    exact g2
end Go.Abs
