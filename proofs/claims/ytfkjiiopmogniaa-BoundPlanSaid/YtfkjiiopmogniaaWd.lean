/- Contracts of the functions of layer 12, each walked once over the abstract machine. -/
import Derived.Test.YtfkjiiopmogniaaWc
import Derived.Test.YtfkjiiopmogniaaAb4
import Derived.Test.YtfkjiiopmogniaaAb5
namespace L12
open Go Go.Abs Go.Proofs
set_option maxRecDepth 100000
theorem served_ok {p : Pln} (hr : LOk p.routes.length) (hf : (flatR p.routes).length * 8 ≤ 140737488355328) {es : List (List V)} (hes : es = (sortI (flatR p.routes)).map cellI) :
    Sound Try.prog 10 [.agg (encP p)] 0 [] (.row 1 es) [] 0 := by
  refine sound_ofL tbl_ok mix Try.func10 rfl rfl (of_decide_eq_true rfl) ?_
  unfold encP
  generalize p.unserved.map cellI = eu
  obtain ⟨l, hl⟩ : ∃ x, x = p.routes := ⟨_, rfl⟩
  rw [← hl] at hr hf hes ⊢
  obtain ⟨er, her⟩ : ∃ x, x = l.map encR := ⟨_, rfl⟩
  rw [← her]
  have hll : er.length = l.length := by rw [her, List.length_map]
  have hget : ∀ z o, l[Int.toNat z]? = some o → er[Int.toNat z]? = some (encR o) := fun z x h => by subst her; simp [h]
  have hs := fun b nx n h es h1 => @sort_ok (flatR l) (by omega) b nx n h es _ h1 hes
  generalize Try.prog = P at *
  generalize hA : Ar.std = A
  cbv
  repeat refine NeedW.mk trivial ?_
  refine .mk (fun k s => ∃ (z : Int) (n : Nat) (acc : List (List V)), 0 ≤ z ∧ k + z.toNat = l.length ∧ n = (flatR (l.take z.toNat)).length ∧ acc = (flatR (l.take z.toNat)).map cellI ∧
    s = { t := [(9, .at (.int .i64 z)), (8, .at (.int .i64 (A.nat (A.len er)))), (7, .row 2 er), (3, .msl 1 20 0 n), (2, .row 1 [])], m := [(20, .arr 3 1 acc)], nx := 21 }) l.length _ (le_of hA (mv := []) (τ := [(20, none)]) ?_) ⟨0, 0, [], by simp, by simp, by simp [flatR], by simp [flatR], rfl⟩ ?_
  · cbv <;> simp
  rintro k s ⟨z, n, acc, h0, hk, hn, hacc, rfl⟩
  have cacc : ClE acc := cl_int hacc
  have lacc : acc.length = n := by rw [hacc, hn]; simp
  cbv
  repeat refine NeedW.mk trivial ?_
  split <;> cbv
  · rename_i hlt
    replace hlt := lt_row hA h0 hlt
    obtain ⟨o, ho⟩ := get_lt (l := l) (hll ▸ hlt)
    obtain ⟨z', hz⟩ : ∃ z', z' = z + 1 := ⟨_, rfl⟩
    have htf := take_flat h0 ho
    rw [← hz] at htf
    have hfl := @flat_le l z'.toNat
    have hge := hget z o ho
    obtain ⟨ot, os⟩ := o
    unfold encR at hge
    simp only at hge htf
    obtain ⟨eo, heo⟩ : ∃ x, x = os.map cellI := ⟨_, rfl⟩
    rw [← heo] at hge
    have leo : eo.length = os.length := by rw [heo, List.length_map]
    obtain ⟨acc', hacc'⟩ : ∃ x, x = acc ++ eo := ⟨_, rfl⟩
    have e1 : acc' = (flatR (l.take z'.toNat)).map cellI := by rw [hacc', hacc, htf, heo]; simp
    have e2 : n + os.length = (flatR (l.take z'.toNat)).length := by rw [hn, htf]; simp
    obtain ⟨n', hn'⟩ : ∃ x, x = n + os.length := ⟨_, rfl⟩
    have cacc' : ClE acc' := cl_int e1
    have honeo : OneE eo := by
      rw [heo]; intro e he
      obtain ⟨y, _, rfl⟩ := List.mem_map.1 he
      simp [cellI, V.one, Value.oneCell']
    clear heo ho
    repeat refine NeedW.mk trivial ?_
    refine .mk _ h0 hge ?_
    cbv
    repeat refine NeedW.mk trivial ?_
    refine NeedW.mk ⟨by subst hA; simp [Ar.std, lacc], honeo, by subst hA; simp [Ar.std, lacc, leo]; omega⟩ ?_
    repeat refine NeedW.mk trivial ?_
    have hlen' : LOk er.length := by show er.length ≤ _; omega
    refine NeedW.mk (inc_ok hA h0 hlt hlen') ?_
    repeat refine NeedW.mk trivial ?_
    refine ⟨k - 1, _, by omega, le_of hA (mv := []) (τ := [(20, some 30)]) ?_, z', n', acc', by omega, by omega, by omega, e1, rfl⟩
    cbv; subst hA; simp [Ar.std, hz, lacc, leo, hn', ← hacc']
    exact cacc'
  · rename_i hge
    replace hge := ge_row hA h0 hge
    rw [List.take_of_length_le (by omega)] at hn hacc
    repeat refine NeedW.mk trivial ?_
    have hes' : ClE es := cl_int hes
    refine callC hA (mi := [(20, .arr 3 1 acc)]) (mv := []) (nx' := 23) (by cbv; simp; exact cacc) rfl (hs 20 23 n hn acc hacc) ?_
    cbv
    repeat refine NeedW.mk trivial ?_
    refine .mk { t := [(2, .row 1 es)], m := [], nx := 0 } (le_of hA (mv := [20]) (τ := []) ?_) ?_
    · cbv; subst hA
      have : es.length = n := by rw [hes, hn]; simp [sortI_length]
      simp [Ar.std, this]; exact ⟨by rw [← this, List.take_length], hes'⟩
    · cbv
      refine .mk rfl ?_
      trivial
theorem sortedr_ok {l : List Int} {es es' : List (List V)} (hes : es = l.map cellI) (hes' : es' = (sortI l).map cellI) (hlen : LOk l.length) (hlen8 : l.length * 8 ≤ 140737488355328) :
    Sound Try.prog 24 [.fn (.func 52) [] [.bptr 0 0]] 1 [(0, .box 29 [.row 1 es])] (.row 1 es') [] 1 := by
  refine sound_ofL tbl_ok mix Try.func24 rfl rfl (of_decide_eq_true rfl) ?_
  obtain ⟨n, hn⟩ : ∃ x, x = l.length := ⟨_, rfl⟩
  have ha := collect_ok hes hlen hlen8 hn
  have hs := fun b nx => @sort_ok l (by unfold LOk at hlen; omega) b nx n hn es es' hes hes'
  have hc := cl_int hes
  have hc' : ClE es' := cl_int hes'
  have hl' : es'.length = n := by rw [hes', hn, List.length_map, sortI_length]
  generalize Try.prog = P at *
  generalize hA : Ar.std = A
  cbv
  repeat refine NeedW.mk trivial ?_
  refine callR hA 12 [(0, 0)] ha (by cbv; simp; exact hc) rfl (by cbv) ?_
  cbv
  repeat refine NeedW.mk trivial ?_
  refine callC hA (mi := [(8, .arr 3 1 es)]) (mv := []) (nx' := 15) (by cbv; simp; exact hc) rfl (hs 8 15) ?_
  cbv
  repeat refine NeedW.mk trivial ?_
  refine .mk { t := [(2, .row 1 es')], m := [], nx := 1 } (le_of hA (mv := [8]) (τ := []) ?_) ?_
  · cbv; subst hA; simp [Ar.std, hl']; exact ⟨by rw [← hl', List.take_length], hc'⟩
  · cbv
    refine .mk rfl ?_
    trivial
theorem twice_ok {l : List Int} {es : List (List V)} (hes : es = l.map cellI) (hlen8 : l.length * 8 ≤ 140737488355328) {r : Bool} (hr : r = decide ((compI (sortI l)).length < l.length)) :
    Sound Try.prog 17 [.row 1 es] 0 [] (.at (.bool r)) [] 0 := by
  refine sound_ofL tbl_ok mix Try.func17 rfl rfl (of_decide_eq_true rfl) ?_
  obtain ⟨n, hn⟩ : ∃ x, x = l.length := ⟨_, rfl⟩
  obtain ⟨q, hq⟩ : ∃ x, x = (compI (sortI l)).length := ⟨_, rfl⟩
  obtain ⟨el, hel⟩ : ∃ x, x = (sortI l).map cellI := ⟨_, rfl⟩
  obtain ⟨ec, hec⟩ : ∃ x, x = compE (sortI l) := ⟨_, rfl⟩
  have hL : LOk l.length := by show l.length ≤ _; omega
  have lel : el.length = n := by rw [hel, hn, List.length_map, sortI_length]
  have c1 := @values_ok es
  have c2 := sortedr_ok hes hel hL hlen8
  have c3 := @clone_int el (by rw [lel, hn]; exact hlen8) (by
      rw [hel]; intro e he
      obtain ⟨y, _, rfl⟩ := List.mem_map.1 he
      simp [cellI, V.one, Value.oneCell']) (cl_int hel)
  have c4 := compact_ok hel (by rw [sortI_length]; exact hL) (n := n) (by rw [sortI_length]; exact hn) hq hec
  have hc := cl_int hes
  have hcl := cl_int hel
  rw [lel] at c3
  rw [← hn, ← hq] at hr
  generalize Try.prog = P at *
  generalize hA : Ar.std = A
  cbv
  repeat refine NeedW.mk trivial ?_
  refine callR hA 3 [] c1 (by cbv) rfl (by cbv) ?_
  cbv
  repeat refine NeedW.mk trivial ?_
  refine callR hA 6 [(0, 2)] c2 (by cbv) rfl (by cbv) ?_
  cbv
  repeat refine NeedW.mk trivial ?_
  refine callR hA 10 [] c3 (by cbv; simp; exact hcl) rfl (by cbv; try (simp; exact hcl)) ?_
  cbv
  repeat refine NeedW.mk trivial ?_
  have hce : ClE ec := by
    rw [hec]; unfold compE; split
    · exact cl_int rfl
    · intro e he x hx
      rcases List.mem_append.1 he with he | he
      · exact cl_int rfl e he x hx
      · rw [List.mem_replicate] at he
        rw [he.2] at hx
        simp at hx
        subst hx; rfl
  refine callR hA 11 [(0, 9)] c4 (by cbv; simp; exact ⟨hcl, hce⟩) rfl (by cbv; simp; exact hcl) ?_
  cbv
  repeat refine NeedW.mk trivial ?_
  refine .mk { t := [(2, .at (.bool r))], m := [], nx := 0 } (le_of hA (mv := []) (τ := []) ?_) ?_
  · cbv; subst hA; simp [Ar.std, hr, lel]
  · cbv
    refine .mk rfl ?_
    trivial
theorem rest_ok {w : Wld} (hw : WOk w) {p : Pln} (hno : w.orders.length ≤ 1000000) (hr : LOk p.routes.length) (hf : (flatR p.routes).length * 8 ≤ 140737488355328) {es : List (List V)} (hes : es = (restS w p).map cellI) :
    Sound Try.prog 19 [.agg (encW w), .agg (encP p)] 0 [] (.row 1 es) [] 0 := by
  refine sound_ofL tbl_ok mix Try.func19 rfl rfl (of_decide_eq_true rfl) ?_
  obtain ⟨sv, hsv⟩ : ∃ x, x = sortI (flatR p.routes) := ⟨_, rfl⟩
  obtain ⟨ev, hev⟩ : ∃ x, x = sv.map cellI := ⟨_, rfl⟩
  have c1 := served_ok hr hf (hsv ▸ hev)
  have lsv : sv.length = (flatR p.routes).length := by rw [hsv, sortI_length]
  obtain ⟨h, hh⟩ : ∃ h : Int → Bool, ∀ t, sv.contains t = h t := ⟨_, fun _ => rfl⟩
  have c2 : ∀ t, ∃ i, Sound Try.prog 44 [.row 1 ev, .at (.int .i64 t)] 0 [] (.tup [.at (.int .i64 i), .at (.bool (h t))]) [] 0 := fun t =>
    ⟨_, @bs_ok sv ev hev (by show sv.length ≤ _; omega) (by rw [hsv]; exact sortI_sorted _) t _ _ rfl (hh t).symm⟩
  obtain ⟨l, hl⟩ : ∃ x, x = w.orders := ⟨_, rfl⟩
  unfold restS at hes
  rw [← hsv, ← hl] at hes
  simp only [hh] at hes
  clear hh
  have hs := fun b nx n hn es h1 => @sort_ok ((l.filter (fun o => !h o.id)).map Ord.id) (by rw [List.length_map]; have := List.length_filter_le (fun o : Ord => !h o.id) l; rw [hl] at this ⊢; omega) b nx n hn es _ h1 hes
  unfold encW encP at *
  generalize w.dist.map cellI = ed at *
  generalize w.time.map cellI = et at *
  generalize w.trucks.map encT = ek at *
  generalize p.unserved.map cellI = eu at *
  generalize p.routes.map encR = er at *
  rw [← hl] at hno ⊢
  obtain ⟨eo, heo⟩ : ∃ x, x = l.map encO := ⟨_, rfl⟩
  rw [← heo]
  generalize w.n = wn at *
  have hll : eo.length = l.length := by rw [heo, List.length_map]
  have hget : ∀ z o, l[Int.toNat z]? = some o → eo[Int.toNat z]? = some (encO o) := fun z x h => by subst heo; simp [h]
  generalize Try.prog = P at *
  generalize hA : Ar.std = A
  cbv
  repeat refine NeedW.mk trivial ?_
  refine call0 c1 rfl rfl ?_
  cbv
  repeat refine NeedW.mk trivial ?_
  refine .mk (fun k s => ∃ (z : Int) (n : Nat) (acc : List (List V)), 0 ≤ z ∧ k + z.toNat = l.length ∧ n = (((l.take z.toNat).filter fun o => !h o.id).map Ord.id).length ∧ acc = (((l.take z.toNat).filter fun o => !h o.id).map Ord.id).map cellI ∧
    s = { t := [(16, .at (.int .i64 z)), (15, .at (.int .i64 (A.nat (A.len eo)))), (14, .row 8 eo), (6, .msl 1 20 0 n), (5, .row 1 ev), (4, .row 1 [])], m := [(20, .arr 3 1 acc)], nx := 21 }) l.length _ (le_of hA (mv := []) (τ := [(20, none)]) ?_) ⟨0, 0, [], by simp, by simp, by simp, by simp, rfl⟩ ?_
  · cbv <;> simp
  rintro k s ⟨z, n, acc, h0, hk, hn, hacc, rfl⟩
  have cacc : ClE acc := cl_int hacc
  have lacc : acc.length = n := by rw [hacc, hn]; simp
  have hnz : n ≤ z.toNat := by
    rw [hn, List.length_map]
    have := List.length_filter_le (fun o : Ord => !h o.id) (l.take z.toNat)
    have := List.length_take_le z.toNat l
    omega
  cbv
  repeat refine NeedW.mk trivial ?_
  split <;> cbv
  · rename_i hlt
    replace hlt := lt_row hA h0 hlt
    obtain ⟨o, ho⟩ := get_lt (l := l) (hll ▸ hlt)
    obtain ⟨z', hz⟩ : ∃ z', z' = z + 1 := ⟨_, rfl⟩
    have htf : (l.take z'.toNat) = l.take z.toNat ++ [o] := by rw [hz, show (z + 1).toNat = z.toNat + 1 by omega, List.take_add_one, ho]; rfl
    have hge := hget z o ho
    obtain ⟨a0, a1, a2, a3, a4, a5, a6, a7⟩ := o
    unfold encO at hge
    simp only at hge htf
    obtain ⟨i, c2'⟩ := c2 a0
    obtain ⟨b, hb⟩ : ∃ b, b = h a0 := ⟨_, rfl⟩
    rw [← hb] at c2'
    have hlen' : LOk eo.length := by show eo.length ≤ _; omega
    clear c2 hs hes ho heo
    repeat refine NeedW.mk trivial ?_
    refine .mk _ h0 hge ?_
    cbv
    repeat refine NeedW.mk trivial ?_
    refine call0 c2' rfl rfl ?_
    cbv
    repeat refine NeedW.mk trivial ?_
    split <;> cbv
    · rename_i hnb
      have hnb : b = false := by subst hA; simpa [Ar.std] using hnb
      obtain ⟨acc', hacc'⟩ : ∃ x, x = acc ++ [cellI a0] := ⟨_, rfl⟩
      have e1 : acc' = (((l.take z'.toNat).filter fun o => !h o.id).map Ord.id).map cellI := by rw [hacc', hacc, htf]; simp [← hb, hnb]
      obtain ⟨n', hn'⟩ : ∃ x, x = n + 1 := ⟨_, rfl⟩
      have e2 : n' = (((l.take z'.toNat).filter fun o => !h o.id).map Ord.id).length := by rw [hn', hn, htf]; simp [← hb, hnb]
      have cacc' : ClE acc' := cl_int e1
      unfold cellI at hacc'
      repeat refine NeedW.mk trivial ?_
      refine NeedW.mk (by subst hA; simp [Ar.std, lacc, V.one, Value.oneCell']; omega) ?_
      repeat refine NeedW.mk trivial ?_
      refine NeedW.mk (inc_ok hA h0 hlt hlen') ?_
      repeat refine NeedW.mk trivial ?_
      refine ⟨k - 1, _, by omega, le_of hA (mv := []) (τ := [(20, some 43)]) ?_, z', n', acc', by omega, by omega, e2, e1, rfl⟩
      cbv; subst hA; simp [Ar.std, hz, lacc, hn', ← hacc']
      exact cacc'
    · rename_i hnb
      have hnb : b = true := by subst hA; simpa [Ar.std] using hnb
      repeat refine NeedW.mk trivial ?_
      refine NeedW.mk (inc_ok hA h0 hlt hlen') ?_
      repeat refine NeedW.mk trivial ?_
      refine ⟨k - 1, _, by omega, le_of hA (mv := []) (τ := [(20, some 20)]) ?_, z', n, acc, by omega, by omega, by rw [hn, htf]; simp [← hb, hnb], by rw [hacc, htf]; simp [← hb, hnb], rfl⟩
      cbv; subst hA; simp [Ar.std, hz]
      exact cacc
  · rename_i hge
    replace hge := ge_row hA h0 hge
    rw [List.take_of_length_le (by omega)] at hn hacc
    have hes' : ClE es := cl_int hes
    repeat refine NeedW.mk trivial ?_
    refine callC hA (mi := [(20, .arr 3 1 acc)]) (mv := []) (nx' := 23) (by cbv; simp; exact cacc) rfl (hs 20 23 n hn acc hacc) ?_
    cbv
    repeat refine NeedW.mk trivial ?_
    refine .mk { t := [(4, .row 1 es)], m := [], nx := 0 } (le_of hA (mv := [20]) (τ := []) ?_) ?_
    · cbv; subst hA
      have : es.length = n := by rw [hes, hn]; simp [sortI_length]
      simp [Ar.std, this]; exact ⟨by rw [← this, List.take_length], hes'⟩
    · cbv
      refine .mk rfl ?_
      trivial
end L12
namespace L12
open Go Go.Abs Go.Proofs
set_option maxRecDepth 100000
theorem check_ok {w : Wld} (hw : WOk w) {p : Pln} (hu : LOk p.unserved.length) {c e : Int} (hr : (c, e) = checkS w p) :
    Sound Try.prog 8 [.agg (encW w), .agg (encP p)] 0 [] (.tup [.at (.int .i64 c), .at (.int .i64 e)]) [] 0 := by
  refine sound_ofL tbl_ok mix Try.func8 rfl rfl (of_decide_eq_true rfl) ?_
  obtain ⟨w0, hw0⟩ : ∃ x, x = worldS w := ⟨_, rfl⟩
  have c1 := world_ok hw hw0
  have c2 := fun t s es h1 p e h2 vs h3 => @run_ok w hw t s es h1 p e h2 vs h3
  obtain ⟨ts, hts⟩ : ∃ x, x = tripsGo w p.routes [] := ⟨_, rfl⟩
  obtain ⟨t1, ht1⟩ : ∃ x, x = twiceS (p.routes.map Rte.truck) := ⟨_, rfl⟩
  have c3 := fun es h1 h2 => @twice_ok (p.routes.map Rte.truck) es h1 h2 _ ht1
  obtain ⟨sv, hsv⟩ : ∃ x, x = (sortI (flatR p.routes)).map cellI := ⟨_, rfl⟩
  have c4 := fun h1 h2 => @served_ok p h1 h2 _ hsv
  obtain ⟨t2, ht2⟩ : ∃ x, x = twiceS (sortI (flatR p.routes)) := ⟨_, rfl⟩
  have c5 := fun h => @twice_ok _ _ hsv (by rw [sortI_length]; exact h) _ ht2
  obtain ⟨er, her⟩ : ∃ x, x = (restS w p).map cellI := ⟨_, rfl⟩
  have c6 := fun h1 h2 h3 => @rest_ok w hw p h1 h2 h3 _ her
  obtain ⟨un, hun⟩ : ∃ x, x = p.unserved.map cellI := ⟨_, rfl⟩
  obtain ⟨b, hb⟩ : ∃ x, x = decide (p.unserved = restS w p) := ⟨_, rfl⟩
  have c7 := equal_ok hun her hu hb
  have c8 := fun l r e h1 h2 => @sum_ok l r e h1 h2
  have hb' : (p.unserved = restS w p) ↔ b = true := by rw [hb]; simp
  unfold checkS at hr
  rw [← hw0, ← hts, ← ht1, ← ht2] at hr
  simp only [hb'] at hr
  obtain ⟨el, hel⟩ : ∃ x, x = encW w := ⟨_, rfl⟩
  have hwo := fun h => (worldS_ok (w := w) h).no
  unfold encW at hel
  unfold encP at *
  rw [← hun] at c4 c6 ⊢
  obtain ⟨l, hl⟩ : ∃ x, x = p.routes := ⟨_, rfl⟩
  rw [← hl] at hts hr c3 c4 c5 c6 ⊢
  obtain ⟨ep, hep⟩ : ∃ x, x = l.map encR := ⟨_, rfl⟩
  rw [← hep] at c4 c6 ⊢
  have hll : ep.length = l.length := by rw [hep, List.length_map]
  have hget : ∀ z o, l[Int.toNat z]? = some o → ep[Int.toNat z]? = some (encR o) := fun z x h => by subst hep; simp [h]
  have hflat : ts.2 = 0 → (flatR l).length ≤ 12 * l.length := fun h => flat_len fun r hr => runS_len ((tripsGo_len (hts ▸ h)).1 r hr)
  have lsv : sv.length = (flatR l).length := by rw [hsv, hl, List.length_map, sortI_length]
  unfold encW at *
  generalize w.dist.map cellI = ed at *
  generalize w.time.map cellI = et at *
  generalize w.orders.map encO = eo at *
  generalize w.trucks.map encT = ek at *
  generalize w.n = wn at *
  generalize Try.prog = P at *
  clear hel hb hb' ht1 ht2
  generalize hA : Ar.std = A
  cbv
  repeat refine NeedW.mk trivial ?_
  refine call0 c1 rfl rfl ?_
  cbv
  repeat refine NeedW.mk trivial ?_
  split <;> cbv
  · rename_i hne
    have hne : w0 ≠ 0 := by subst hA; simpa [Ar.std] using hne
    rw [if_pos hne] at hr
    simp only [Prod.mk.injEq] at hr
    obtain ⟨hr1, hr2⟩ := hr
    repeat refine NeedW.mk trivial ?_
    refine .mk { t := [(4, .at (.int .i64 c)), (5, .at (.int .i64 e))], m := [], nx := 0 } (le_of hA (mv := []) (τ := []) ?_) ?_
    · cbv
      simp [hr1, hr2]
    · cbv
      refine .mk rfl ?_
      trivial
  rename_i hne
  have hne : w0 = 0 := by subst hA; simpa [Ar.std] using hne
  rw [if_neg (by simp [hne])] at hr
  repeat refine NeedW.mk trivial ?_
  split <;> cbv
  · rename_i h1
    have h1 : 6 < l.length := by subst hA; simp [Ar.std] at h1; omega
    rw [if_pos h1] at hr
    simp only [Prod.mk.injEq] at hr
    obtain ⟨hr1, hr2⟩ := hr
    repeat refine NeedW.mk trivial ?_
    refine .mk { t := [(4, .at (.int .i64 c)), (5, .at (.int .i64 e))], m := [], nx := 0 } (le_of hA (mv := []) (τ := []) ?_) ?_
    · cbv
      simp [hr1, hr2]
    · cbv
      refine .mk rfl ?_
      trivial
  rename_i h1
  have h1 : ¬ 6 < l.length := by subst hA; simp [Ar.std] at h1; omega
  rw [if_neg h1] at hr
  repeat refine NeedW.mk trivial ?_
  refine .mk (fun k s => ∃ (z : Int) (n : Nat) (cs : List Int) (ec et' : List (List V)), 0 ≤ z ∧ k + z.toNat = l.length ∧ n = z.toNat ∧ cs.length = n ∧ ec = cs.map cellI ∧ et' = ((l.take z.toNat).map Rte.truck).map cellI ∧ ts = tripsGo w (l.drop z.toNat) cs ∧
    s = { t := [(25, .at (.int .i64 z)), (24, .at (.int .i64 (A.nat (A.len ep)))), (23, .row 2 ep), (7, .msl 1 30 0 n), (8, .msl 1 31 0 n), (2, .bptr 0 0), (3, .bptr 2 0)], m := [(2, .box 34 [.row 2 ep, .row 1 un]), (0, .box 28 [.at (.int .i64 wn), .row 1 ed, .row 1 et, .row 8 eo, .row 7 ek]), (30, .arr 2 1 ec), (31, .arr 3 1 et')], nx := 32 }) l.length _ (le_of hA (mv := []) (τ := [(2, some 2), (0, some 0), (30, none), (31, none)]) ?_) ⟨0, 0, [], [], [], by simp, by simp, by simp, by simp, by simp, by simp, by simpa using hts, rfl⟩ ?_
  · cbv <;> simp
  rintro k s ⟨z, n, cs, ec, et', h0, hk, hn, hcs, hec, het, hts, rfl⟩
  have cec : ClE ec := cl_int hec
  have cet : ClE et' := cl_int het
  have lec : ec.length = n := by rw [hec, List.length_map, hcs]
  have let' : et'.length = n := by rw [het, List.length_map, List.length_map, List.length_take]; omega
  cbv
  repeat refine NeedW.mk trivial ?_
  split <;> cbv
  · rename_i hlt
    replace hlt := lt_row hA h0 hlt
    obtain ⟨o, ho⟩ := get_lt (l := l) (hll ▸ hlt)
    obtain ⟨z', hz⟩ : ∃ z', z' = z + 1 := ⟨_, rfl⟩
    have hge := hget z o ho
    rw [drop_cons h0 ho, ← hz] at hts
    obtain ⟨ot, os⟩ := o
    unfold encR at hge
    simp only [tripsGo] at hge hts
    have htf : (l.take z'.toNat) = l.take z.toNat ++ [⟨ot, os⟩] := by rw [hz, show (z + 1).toNat = z.toNat + 1 by omega, List.take_add_one, ho]; rfl
    obtain ⟨eo', heo'⟩ : ∃ x, x = os.map cellI := ⟨_, rfl⟩
    rw [← heo'] at hge
    obtain ⟨q, qe, hq⟩ : ∃ q qe, (q, qe) = runS w ot os := ⟨_, _, rfl⟩
    obtain ⟨vs, hvs⟩ : ∃ x, x = q.visits.map encV := ⟨_, rfl⟩
    have c2' := c2 ot os eo' heo' q qe hq vs hvs
    obtain ⟨q1, q2, q3, q4⟩ := q
    simp only at c2'
    rw [← hq] at hts
    clear c2 ho heo' hq
    have hlen' : LOk ep.length := by show ep.length ≤ _; omega
    repeat refine NeedW.mk trivial ?_
    refine .mk _ h0 hge ?_
    cbv
    repeat refine NeedW.mk trivial ?_
    refine call0 c2' rfl rfl ?_
    cbv
    repeat refine NeedW.mk trivial ?_
    split <;> cbv
    · rename_i h2
      have h2 : qe ≠ 0 := by subst hA; simpa [Ar.std] using h2
      rw [if_pos h2] at hts
      rw [if_pos (by rw [hts]; exact h2)] at hr
      rw [hts] at hr
      simp only [Prod.mk.injEq] at hr
      obtain ⟨hr1, hr2⟩ := hr
      repeat refine NeedW.mk trivial ?_
      refine .mk { t := [(4, .at (.int .i64 c)), (5, .at (.int .i64 e))], m := [], nx := 0 } (le_of hA (mv := []) (τ := []) ?_) ?_
      · cbv
        simp [hr1, hr2]
      · cbv
        refine .mk rfl ?_
        trivial
    rename_i h2
    have h2 : qe = 0 := by subst hA; simpa [Ar.std] using h2
    rw [if_neg (by simp [h2])] at hts
    simp only at hts
    obtain ⟨n', hn'⟩ : ∃ x, x = n + 1 := ⟨_, rfl⟩
    obtain ⟨cs', hcs'⟩ : ∃ x, x = cs ++ [q4] := ⟨_, rfl⟩
    rw [← hcs'] at hts
    obtain ⟨ec', hec'⟩ : ∃ x, x = ec ++ [cellI q4] := ⟨_, rfl⟩
    obtain ⟨et2, het2⟩ : ∃ x, x = et' ++ [cellI ot] := ⟨_, rfl⟩
    have e1 : ec' = cs'.map cellI := by rw [hec', hcs', hec]; simp
    have e2 : et2 = ((l.take z'.toNat).map Rte.truck).map cellI := by rw [het2, het, htf]; simp
    have cec' : ClE ec' := cl_int e1
    have cet2 : ClE et2 := cl_int e2
    unfold cellI at hec' het2
    repeat refine NeedW.mk trivial ?_
    refine .mk rfl ?_
    cbv
    repeat refine NeedW.mk trivial ?_
    refine NeedW.mk (by subst hA; simp [Ar.std, lec, V.one, Value.oneCell']; omega) ?_
    repeat refine NeedW.mk trivial ?_
    refine NeedW.mk (by subst hA; simp [Ar.std, let', V.one, Value.oneCell']; omega) ?_
    repeat refine NeedW.mk trivial ?_
    refine NeedW.mk (inc_ok hA h0 hlt hlen') ?_
    repeat refine NeedW.mk trivial ?_
    refine ⟨k - 1, _, by omega, le_of hA (mv := []) (τ := [(2, some 2), (0, some 0), (30, some 55), (31, some 62)]) ?_, z', n', cs', ec', et2, by omega, by omega, by omega, by rw [hcs', hn', List.length_append, hcs]; rfl, e1, e2, hts, rfl⟩
    cbv; subst hA; simp [Ar.std, hz, lec, let', hn', ← hec', ← het2]
    exact ⟨cec', cet2⟩
  · rename_i hge
    replace hge := ge_row hA h0 hge
    rw [List.take_of_length_le (by omega)] at het
    rw [List.drop_eq_nil_of_le (by omega)] at hts
    unfold tripsGo at hts
    rw [hts] at hr
    simp only at hr
    rw [if_neg (by decide)] at hr
    repeat refine NeedW.mk trivial ?_
    have c3' := c3 et' het (by rw [List.length_map]; omega)
    refine callRM hA 34 (mv := [31]) [] c3' (by cbv) (by cbv; subst hA; simp [Ar.std, let']; exact cet) (by cbv; subst hA; simp [Ar.std, ← let']) rfl ?_
    cbv
    repeat refine NeedW.mk trivial ?_
    split <;> cbv
    · rename_i h3
      have h3 : ¬ t1 = true := by simp [show t1 = false from h3]
      rw [if_neg h3] at hr
      repeat refine NeedW.mk trivial ?_
      have hfl := hflat (by rw [hts])
      refine call0 (c4 (by omega) (by omega)) rfl rfl ?_
      cbv
      repeat refine NeedW.mk trivial ?_
      refine call0 (c5 (by omega)) rfl rfl ?_
      cbv
      repeat refine NeedW.mk trivial ?_
      split <;> cbv
      · rename_i h4
        have h4 : t2 = true := by subst hA; simpa [Ar.std] using h4
        rw [if_pos h4] at hr
        simp only [Prod.mk.injEq] at hr
        obtain ⟨hr1, hr2⟩ := hr
        repeat refine NeedW.mk trivial ?_
        refine .mk { t := [(4, .at (.int .i64 c)), (5, .at (.int .i64 e))], m := [], nx := 0 } (le_of hA (mv := []) (τ := []) ?_) ?_
        · cbv
          simp [hr1, hr2]
        · cbv
          refine .mk rfl ?_
          trivial
      rename_i h4
      have h4 : ¬ t2 = true := by subst hA; simpa [Ar.std] using h4
      rw [if_neg h4] at hr
      repeat refine NeedW.mk trivial ?_
      refine .mk rfl ?_
      cbv
      repeat refine NeedW.mk trivial ?_
      refine call0 (c6 (by have := hwo (hw0.symm.trans hne); omega) (by omega) (by omega)) rfl rfl ?_
      cbv
      repeat refine NeedW.mk trivial ?_
      refine call0 c7 rfl rfl ?_
      cbv
      repeat refine NeedW.mk trivial ?_
      split <;> cbv
      · rename_i h5
        have h5 : ¬ b = true := by subst hA; cases b <;> simp_all [Ar.std]
        rw [if_neg h5] at hr
        simp only [Prod.mk.injEq] at hr
        obtain ⟨hr1, hr2⟩ := hr
        repeat refine NeedW.mk trivial ?_
        refine .mk { t := [(4, .at (.int .i64 c)), (5, .at (.int .i64 e))], m := [], nx := 0 } (le_of hA (mv := []) (τ := []) ?_) ?_
        · cbv
          simp [hr1, hr2]
        · cbv
          refine .mk rfl ?_
          trivial
      rename_i h5
      have h5 : b = true := by subst hA; cases b <;> simp_all [Ar.std]
      rw [if_pos h5] at hr
      repeat refine NeedW.mk trivial ?_
      have c8' := c8 cs c e (by omega) hr
      change Sound P _ [.row 1 (cs.map cellI)] _ _ _ _ _ at c8'
      rw [← hec] at c8'
      refine callRM hA 46 (mv := [30]) [] c8' (by cbv) (by cbv; subst hA; simp [Ar.std, lec]; exact cec) (by cbv; subst hA; simp [Ar.std, ← lec]) rfl ?_
      cbv
      repeat refine NeedW.mk trivial ?_
      refine .mk { t := [(4, .at (.int .i64 c)), (5, .at (.int .i64 e))], m := [], nx := 0 } (le_of hA (mv := []) (τ := []) ?_) ?_
      · cbv
      · cbv
        refine .mk rfl ?_
        trivial
    · rename_i h3
      have h3 : t1 = true := by cases t1; exact absurd rfl h3; rfl
      rw [if_pos h3] at hr
      simp only [Prod.mk.injEq] at hr
      obtain ⟨hr1, hr2⟩ := hr
      repeat refine NeedW.mk trivial ?_
      refine .mk { t := [(4, .at (.int .i64 c)), (5, .at (.int .i64 e))], m := [], nx := 0 } (le_of hA (mv := []) (τ := []) ?_) ?_
      · cbv
        simp [hr1, hr2]
      · cbv
        refine .mk rfl ?_
        trivial
end L12
namespace L12
open Go Go.Abs Go.Proofs
set_option maxRecDepth 100000
theorem bwithin_ok {n m : Int} {r : Bool} (hr : r = decide (0 ≤ n ∧ n ≤ m)) : Sound Try.prog 22 [.at (.int .i64 n), .at (.int .i64 m)] 0 [] (.at (.bool r)) [] 0 := by
  refine sound_of tbl_ok mix Try.func22 rfl rfl (of_decide_eq_true rfl) ?_
  generalize Try.prog = P
  have hr' : r = (decide (0 ≤ n) && decide (n ≤ m)) := by rw [hr]; simp
  clear hr
  generalize hA : Ar.std = A
  cbv
  repeat refine NeedW.mk trivial ?_
  split <;> cbv
  · rename_i h
    have h : 0 ≤ n := by subst hA; simpa [Ar.std] using h
    repeat refine NeedW.mk trivial ?_
    refine .mk ?_ trivial
    have hle : A.le n m = decide (n ≤ m) := by subst hA; rfl
    have hp : A.pick true (decide (n ≤ m)) false = decide (n ≤ m) := by subst hA; rfl
    simp only [hr', hle, hp, h, decide_true, Bool.true_and]
  · rename_i h
    have h : ¬ 0 ≤ n := by subst hA; simpa [Ar.std] using h
    repeat refine NeedW.mk trivial ?_
    refine .mk ?_ trivial
    simp [hr', h]
theorem make2_ok {t : Trk} : Sound Try.prog 34 [.agg (encT t)] 0 [] (.at (.int .i64 t.rate)) [] 0 := by
  refine sound_of tbl_ok mix Try.func34 rfl rfl (of_decide_eq_true rfl) ?_
  obtain ⟨a0, a1, a2, a3, a4, a5, a6⟩ := t
  unfold encT
  generalize Try.prog = P
  generalize hA : Ar.std = A
  cbv
  repeat refine NeedW.mk trivial ?_
  refine .mk rfl trivial
theorem make3_ok {t : Trk} : Sound Try.prog 35 [.agg (encT t)] 0 [] (.at (.int .i64 t.fixed)) [] 0 := by
  refine sound_of tbl_ok mix Try.func35 rfl rfl (of_decide_eq_true rfl) ?_
  obtain ⟨a0, a1, a2, a3, a4, a5, a6⟩ := t
  unfold encT
  generalize Try.prog = P
  generalize hA : Ar.std = A
  cbv
  repeat refine NeedW.mk trivial ?_
  refine .mk rfl trivial
theorem make1_ok {w : Wld} (hw : WOk w) {o : Ord} {d : Int} (hd : d = farS w o.node 0) :
    Sound Try.prog 31 [.agg (encO o), .bptr 0 0] 1 [(0, .box 28 (encW w))] (.at (.int .i64 d)) [(0, .box 28 (encW w))] 1 := by
  refine sound_of tbl_ok mix Try.func31 rfl rfl (of_decide_eq_true rfl) ?_
  unfold farS at hd
  obtain ⟨q, t, e, hq⟩ : ∃ d t e, (d, t, e) = legS w.n w.dist w.time o.node 0 := ⟨_, _, _, rfl⟩
  have c1 := leg_ok hw.d hw.t hq
  rw [← hq] at hd
  unfold encW
  generalize w.dist.map cellI = ed at *
  generalize w.time.map cellI = et at *
  generalize w.orders.map encO = eo at *
  generalize w.trucks.map encT = ek at *
  generalize w.n = wn at *
  obtain ⟨a0, a1, a2, a3, a4, a5, a6, a7⟩ := o
  unfold encO
  simp only at c1 hd ⊢
  generalize Try.prog = P at c1 ⊢
  generalize hA : Ar.std = A
  cbv
  repeat refine NeedW.mk trivial ?_
  refine call0 c1 rfl rfl ?_
  cbv
  repeat refine NeedW.mk trivial ?_
  refine .mk (by rw [hd]) trivial
theorem in1_ok {w : Wld} (hw : WOk w) {l : List Ord} (hlen : LOk l.length) {i : Int} (h0 : 0 ≤ i) (hi : i.toNat < l.length) {node d : Int} (hd : d = farS w node (l.getD i.toNat default).node) {el : List (List V)} (hel : el = l.map encO) :
    Sound Try.prog 56 [.at (.int .i64 node), .bptr 0 0, .bptr 1 0, .bptr 2 0] 3
      [(0, .box 24 [.at (.int .i64 w.n), .row 1 (w.dist.map cellI), .row 1 (w.time.map cellI)]), (1, .box 25 [.row 8 el]), (2, .box 3 [.at (.int .i64 i)])] (.at (.int .i64 d))
      [(0, .box 24 [.at (.int .i64 w.n), .row 1 (w.dist.map cellI), .row 1 (w.time.map cellI)]), (1, .box 25 [.row 8 el]), (2, .box 3 [.at (.int .i64 i)])] 3 := by
  refine sound_of tbl_ok mix Try.func56 rfl rfl (of_decide_eq_true rfl) ?_
  unfold farS at hd
  obtain ⟨q, t, e, hq⟩ : ∃ d t e, (d, t, e) = legS w.n w.dist w.time node (l.getD i.toNat default).node := ⟨_, _, _, rfl⟩
  have c1 := leg_ok hw.d hw.t hq
  rw [← hq] at hd
  generalize w.dist.map cellI = ed at *
  generalize w.time.map cellI = et at *
  generalize w.n = wn at *
  have hge : el[i.toNat]? = some (encO (l.getD i.toNat default)) := by
    rw [hel, List.getElem?_map, List.getD_eq_getElem?_getD, List.getElem?_eq_getElem hi]; rfl
  generalize l.getD i.toNat default = o at *
  obtain ⟨a0, a1, a2, a3, a4, a5, a6, a7⟩ := o
  unfold encO at hge
  simp only at c1 hd hge ⊢
  clear hq hi hlen hel
  generalize Try.prog = P at c1 ⊢
  generalize hA : Ar.std = A
  cbv
  repeat refine NeedW.mk trivial ?_
  refine .mk rfl ?_
  cbv
  repeat refine NeedW.mk trivial ?_
  refine .mk _ h0 hge ?_
  cbv
  repeat refine NeedW.mk trivial ?_
  refine call0 c1 rfl rfl ?_
  cbv
  repeat refine NeedW.mk trivial ?_
  refine .mk (by rw [hd]) trivial
theorem least_order {es : List (List V)} {k : Nat} {wn : Int} {ed et eo ek : List (List V)} {p : List V → Int} {r : Int} (hlen : LOk es.length) (hsh : ∀ el ∈ es, ∃ c0 c1 c2 c3 c4 c5 c6 c7 : Int, el = [.at (.int .i64 c0), .at (.int .i64 c1), .at (.int .i64 c2), .at (.int .i64 c3), .at (.int .i64 c4), .at (.int .i64 c5), .at (.int .i64 c6), .at (.int .i64 c7)])
    (hf : ∀ c0 c1 c2 c3 c4 c5 c6 c7 : Int, [.at (.int .i64 c0), .at (.int .i64 c1), .at (.int .i64 c2), .at (.int .i64 c3), .at (.int .i64 c4), .at (.int .i64 c5), .at (.int .i64 c6), .at (.int .i64 c7)] ∈ es → Sound Try.prog k [.agg [.at (.int .i64 c0), .at (.int .i64 c1), .at (.int .i64 c2), .at (.int .i64 c3), .at (.int .i64 c4), .at (.int .i64 c5), .at (.int .i64 c6), .at (.int .i64 c7)], .bptr 0 0] 1 [(0, .box 28 [.at (.int .i64 wn), .row 1 ed, .row 1 et, .row 8 eo, .row 7 ek])] (.at (.int .i64 (p [.at (.int .i64 c0), .at (.int .i64 c1), .at (.int .i64 c2), .at (.int .i64 c3), .at (.int .i64 c4), .at (.int .i64 c5), .at (.int .i64 c6), .at (.int .i64 c7)]))) [(0, .box 28 [.at (.int .i64 wn), .row 1 ed, .row 1 et, .row 8 eo, .row 7 ek])] 1) (hr : r = leastS p es) : Sound Try.prog 30 [.row 8 es, .fn (.func k) [] [.bptr 0 0]] 1 [(0, .box 28 [.at (.int .i64 wn), .row 1 ed, .row 1 et, .row 8 eo, .row 7 ek])] (.at (.int .i64 r)) [(0, .box 28 [.at (.int .i64 wn), .row 1 ed, .row 1 et, .row 8 eo, .row 7 ek])] 1 := by
  refine sound_of tbl_ok mix Try.func30 rfl rfl (of_decide_eq_true rfl) ?_
  generalize Try.prog = P at hf ⊢
  generalize hA : Ar.std = A
  cbv
  repeat refine NeedW.mk trivial ?_
  refine .mk (fun k' s => ∃ z out : Int, 0 ≤ z ∧ k' + z.toNat = es.length ∧ r = leastGo p (decide (z = 0)) out (es.drop z.toNat) ∧
    s = { t := [(1, .fn (.func k) [] [.bptr 0 0]), (9, .row 8 es), (11, .at (.int .i64 z)), (10, .at (.int .i64 (A.nat (A.len es)))), (5, .at (.int .i64 out))], m := [(0, .box 28 [.at (.int .i64 wn), .row 1 ed, .row 1 et, .row 8 eo, .row 7 ek])], nx := 1 }) es.length _ (le_of hA (mv := []) (τ := [(0, some 0)]) ?_) ⟨0, 0, by simp, by simp, by simpa [leastS] using hr, rfl⟩ ?_
  · cbv <;> simp
  clear hr
  rintro k' s ⟨z, out, h0, hk, hr, rfl⟩
  cbv
  repeat refine NeedW.mk trivial ?_
  split <;> cbv
  · rename_i hlt
    replace hlt := lt_row hA h0 hlt
    obtain ⟨el, hel⟩ := get_lt hlt
    obtain ⟨z', hz⟩ : ∃ z', z' = z + 1 := ⟨_, rfl⟩
    rw [drop_cons h0 hel, leastGo, ← hz] at hr
    obtain ⟨c0, c1, c2, c3, c4, c5, c6, c7, rfl⟩ := hsh el (List.mem_of_getElem? hel)
    have hfe := hf c0 c1 c2 c3 c4 c5 c6 c7 (List.mem_of_getElem? hel)
    obtain ⟨b, hb⟩ : ∃ b, b = p [.at (.int .i64 c0), .at (.int .i64 c1), .at (.int .i64 c2), .at (.int .i64 c3), .at (.int .i64 c4), .at (.int .i64 c5), .at (.int .i64 c6), .at (.int .i64 c7)] := ⟨_, rfl⟩
    rw [← hb] at hr hfe
    repeat refine NeedW.mk trivial ?_
    refine .mk _ h0 hel ?_
    cbv
    repeat refine NeedW.mk trivial ?_
    refine callU hA hfe (by cbv <;> simp) rfl ?_
    cbv
    repeat refine NeedW.mk trivial ?_
    repeat' (first
      | refine NeedW.mk trivial ?_
      | refine NeedW.mk (inc_ok hA h0 hlt hlen) ?_
      | (refine ⟨k' - 1, _, by omega, le_of hA (mv := []) (τ := [(0, some 0)]) ?le, z', b, by omega, by omega, ?eq, rfl⟩
         case le => cbv; subst hA; simp [Ar.std, hz]
         case eq =>
           rw [hr, show decide (z' = 0) = false from by simp; omega]
           congr 1
           clear hr hf hsh hel hb
           subst hA
           simp_all [Ar.std]
           try (intros; omega)
           done)
      | (refine ⟨k' - 1, _, by omega, le_of hA (mv := []) (τ := [(0, some 0)]) ?le, z', out, by omega, by omega, ?eq, rfl⟩
         case le => cbv; subst hA; simp [Ar.std, hz]
         case eq =>
           rw [hr, show decide (z' = 0) = false from by simp; omega]
           congr 1
           clear hr hf hsh hel hb
           subst hA
           simp_all [Ar.std]
           try (intros; omega)
           done)
      | (split <;> cbv))
  · rename_i hge
    replace hge := ge_row hA h0 hge
    repeat refine NeedW.mk trivial ?_
    refine .mk ?_ trivial
    rw [hr, List.drop_eq_nil_of_le hge]
    rfl
theorem least_int {es : List (List V)} {k : Nat} {wn i : Int} {ed et eo : List (List V)} {p : List V → Int} {r : Int} (hlen : LOk es.length) (hsh : ∀ el ∈ es, ∃ c0 : Int, el = [.at (.int .i64 c0)])
    (hf : ∀ c0 : Int, [.at (.int .i64 c0)] ∈ es → Sound Try.prog k [.at (.int .i64 c0), .bptr 0 0, .bptr 1 0, .bptr 2 0] 3 [(0, .box 24 [.at (.int .i64 wn), .row 1 ed, .row 1 et]), (1, .box 25 [.row 8 eo]), (2, .box 3 [.at (.int .i64 i)])] (.at (.int .i64 (p [.at (.int .i64 c0)]))) [(0, .box 24 [.at (.int .i64 wn), .row 1 ed, .row 1 et]), (1, .box 25 [.row 8 eo]), (2, .box 3 [.at (.int .i64 i)])] 3) (hr : r = leastS p es) : Sound Try.prog 55 [.row 1 es, .fn (.func k) [] [.bptr 0 0, .bptr 1 0, .bptr 2 0]] 3 [(0, .box 24 [.at (.int .i64 wn), .row 1 ed, .row 1 et]), (1, .box 25 [.row 8 eo]), (2, .box 3 [.at (.int .i64 i)])] (.at (.int .i64 r)) [(0, .box 24 [.at (.int .i64 wn), .row 1 ed, .row 1 et]), (1, .box 25 [.row 8 eo]), (2, .box 3 [.at (.int .i64 i)])] 3 := by
  refine sound_of tbl_ok mix Try.func55 rfl rfl (of_decide_eq_true rfl) ?_
  generalize Try.prog = P at hf ⊢
  generalize hA : Ar.std = A
  cbv
  repeat refine NeedW.mk trivial ?_
  refine .mk (fun k' s => ∃ z out : Int, 0 ≤ z ∧ k' + z.toNat = es.length ∧ r = leastGo p (decide (z = 0)) out (es.drop z.toNat) ∧
    s = { t := [(1, .fn (.func k) [] [.bptr 0 0, .bptr 1 0, .bptr 2 0]), (9, .row 1 es), (11, .at (.int .i64 z)), (10, .at (.int .i64 (A.nat (A.len es)))), (5, .at (.int .i64 out))], m := [(0, .box 24 [.at (.int .i64 wn), .row 1 ed, .row 1 et]), (1, .box 25 [.row 8 eo]), (2, .box 3 [.at (.int .i64 i)])], nx := 3 }) es.length _ (le_of hA (mv := []) (τ := [(0, some 0), (1, some 1), (2, some 2)]) ?_) ⟨0, 0, by simp, by simp, by simpa [leastS] using hr, rfl⟩ ?_
  · cbv <;> simp
  clear hr
  rintro k' s ⟨z, out, h0, hk, hr, rfl⟩
  cbv
  repeat refine NeedW.mk trivial ?_
  split <;> cbv
  · rename_i hlt
    replace hlt := lt_row hA h0 hlt
    obtain ⟨el, hel⟩ := get_lt hlt
    obtain ⟨z', hz⟩ : ∃ z', z' = z + 1 := ⟨_, rfl⟩
    rw [drop_cons h0 hel, leastGo, ← hz] at hr
    obtain ⟨c0, rfl⟩ := hsh el (List.mem_of_getElem? hel)
    have hfe := hf c0 (List.mem_of_getElem? hel)
    obtain ⟨b, hb⟩ : ∃ b, b = p [.at (.int .i64 c0)] := ⟨_, rfl⟩
    rw [← hb] at hr hfe
    repeat refine NeedW.mk trivial ?_
    refine .mk _ h0 hel ?_
    cbv
    repeat refine NeedW.mk trivial ?_
    refine callU hA hfe (by cbv <;> simp) rfl ?_
    cbv
    repeat refine NeedW.mk trivial ?_
    repeat' (first
      | refine NeedW.mk trivial ?_
      | refine NeedW.mk (inc_ok hA h0 hlt hlen) ?_
      | (refine ⟨k' - 1, _, by omega, le_of hA (mv := []) (τ := [(0, some 0), (1, some 1), (2, some 2)]) ?le, z', b, by omega, by omega, ?eq, rfl⟩
         case le => cbv; subst hA; simp [Ar.std, hz]
         case eq =>
           rw [hr, show decide (z' = 0) = false from by simp; omega]
           congr 1
           clear hr hf hsh hel hb
           subst hA
           simp_all [Ar.std]
           try (intros; omega)
           done)
      | (refine ⟨k' - 1, _, by omega, le_of hA (mv := []) (τ := [(0, some 0), (1, some 1), (2, some 2)]) ?le, z', out, by omega, by omega, ?eq, rfl⟩
         case le => cbv; subst hA; simp [Ar.std, hz]
         case eq =>
           rw [hr, show decide (z' = 0) = false from by simp; omega]
           congr 1
           clear hr hf hsh hel hb
           subst hA
           simp_all [Ar.std]
           try (intros; omega)
           done)
      | (split <;> cbv))
  · rename_i hge
    replace hge := ge_row hA h0 hge
    repeat refine NeedW.mk trivial ?_
    refine .mk ?_ trivial
    rw [hr, List.drop_eq_nil_of_le hge]
    rfl
theorem in_ok {w : Wld} (hw : WOk w) {l : List Ord} (hlen : l.length ≤ 1000000) {i : Int} (h0 : 0 ≤ i) (hi : i.toNat < l.length) {d : Int} (hd : d = inS w l i) {el : List (List V)} (hel : el = l.map encO) :
    Sound Try.prog 29 [.agg [.at (.int .i64 w.n), .row 1 (w.dist.map cellI), .row 1 (w.time.map cellI)], .row 8 el, .at (.int .i64 i)] 0 [] (.at (.int .i64 d)) [] 0 := by
  refine sound_of tbl_ok mix Try.func29 rfl rfl (of_decide_eq_true rfl) ?_
  have hlw : LOk l.length := by show l.length ≤ _; omega
  have c1 := fun node d hd => @in1_ok w hw l hlw i h0 hi node d hd el hel
  unfold inS at hd
  obtain ⟨fr, hfr⟩ : ∃ x, x = 0 :: othersGo i 0 l := ⟨_, rfl⟩
  have hfl : fr.length ≤ 1 + l.length := by rw [hfr, List.length_cons]; have := @othersGo_le i l 0; omega
  rw [← hfr] at hd
  obtain ⟨ef, hef⟩ : ∃ x, x = fr.map cellI := ⟨_, rfl⟩
  have cef : ClE ef := cl_int hef
  obtain ⟨pf, hpf⟩ : ∃ pf : List V → Int, ∀ z, pf [.at (.int .i64 z)] = farS w z (l.getD i.toNat default).node := ⟨fun e => match e with | [.at (.int _ z)] => farS w z (l.getD i.toNat default).node | _ => 0, fun z => rfl⟩
  have hd' : d = leastS pf ef := by rw [hd, hef]; exact (leastS_map cellI pf _ hpf fr).symm
  have c2 := @least_int ef 56 w.n i (w.dist.map cellI) (w.time.map cellI) el pf d (by rw [hef, List.length_map]; show fr.length ≤ _; omega) (by
    intro e he; rw [hef] at he; obtain ⟨y, _, rfl⟩ := List.mem_map.1 he; exact ⟨y, rfl⟩) (fun c0 _ => c1 c0 _ (hpf c0)) hd'
  clear hd hd' hpf c1
  generalize w.dist.map cellI = ed at *
  generalize w.time.map cellI = et at *
  generalize w.n = wn at *
  have hget : ∀ z o, l[Int.toNat z]? = some o → el[Int.toNat z]? = some (encO o) := fun z x h => by subst hel; simp [h]
  have hll : el.length = l.length := by rw [hel, List.length_map]
  generalize Try.prog = P at c2 ⊢
  generalize hA : Ar.std = A
  cbv
  repeat refine NeedW.mk trivial ?_
  refine .mk (fun k s => ∃ (z : Int) (n : Nat) (cs : List Int) (ec : List (List V)), 0 ≤ z ∧ k + z.toNat = l.length ∧ n = cs.length ∧ n ≤ 1 + z.toNat ∧ ec = cs.map cellI ∧ fr = cs ++ othersGo i z (l.drop z.toNat) ∧
    s = { t := [(13, .at (.int .i64 z)), (12, .at (.int .i64 (A.nat (A.len el)))), (11, .row 8 el), (7, .msl 1 20 0 n), (5, .bptr 4 0), (4, .bptr 2 0), (3, .bptr 0 0)], m := [(4, .box 3 [.at (.int .i64 i)]), (2, .box 25 [.row 8 el]), (0, .box 24 [.at (.int .i64 wn), .row 1 ed, .row 1 et]), (20, .arr 3 1 ec)], nx := 21 }) l.length _ (le_of hA (mv := []) (τ := [(4, some 4), (2, some 2), (0, some 0), (20, some 7)]) ?_) ⟨0, 1, [0], [[.at (.int .i64 0)]], by simp, by simp, by simp, by simp, rfl, by simpa using hfr, rfl⟩ ?_
  · cbv <;> simp <;> rfl
  clear hfr
  rintro k s ⟨z, n, cs, ec, hz0, hk, hn, hnz, hec, hfr, rfl⟩
  have cec : ClE ec := cl_int hec
  have lec : ec.length = n := by rw [hec, List.length_map, hn]
  cbv
  repeat refine NeedW.mk trivial ?_
  split <;> cbv
  · rename_i hlt
    replace hlt := lt_row hA hz0 hlt
    obtain ⟨o, ho⟩ := get_lt (l := l) (hll ▸ hlt)
    obtain ⟨z', hz⟩ : ∃ z', z' = z + 1 := ⟨_, rfl⟩
    have hge := hget z o ho
    rw [drop_cons hz0 ho, ← hz] at hfr
    simp only [othersGo] at hfr
    rw [← hz] at hfr
    obtain ⟨a0, a1, a2, a3, a4, a5, a6, a7⟩ := o
    unfold encO at hge
    simp only at hge hfr
    have hlen' : LOk el.length := by show el.length ≤ _; omega
    clear ho hel c2
    repeat refine NeedW.mk trivial ?_
    refine .mk _ hz0 hge ?_
    cbv
    repeat refine NeedW.mk trivial ?_
    split <;> cbv
    · rename_i hne
      have hne : ¬ z = i := by subst hA; simpa [Ar.std] using hne
      rw [if_neg hne] at hfr
      obtain ⟨cs', hcs'⟩ : ∃ x, x = cs ++ [a2] := ⟨_, rfl⟩
      obtain ⟨ec', hec'⟩ : ∃ x, x = ec ++ [cellI a2] := ⟨_, rfl⟩
      obtain ⟨n', hn'⟩ : ∃ x, x = n + 1 := ⟨_, rfl⟩
      have e1 : ec' = cs'.map cellI := by rw [hec', hcs', hec]; simp
      have e2 : fr = cs' ++ othersGo i z' (l.drop z'.toNat) := by rw [hfr, hcs']; simp
      have cec' : ClE ec' := cl_int e1
      have hfl' : n' = cs'.length := by rw [hn', hcs', hn]; simp
      unfold cellI at hec'
      repeat refine NeedW.mk trivial ?_
      refine NeedW.mk (by subst hA; simp [Ar.std, lec, V.one, Value.oneCell']; omega) ?_
      repeat refine NeedW.mk trivial ?_
      refine NeedW.mk (inc_ok hA hz0 hlt hlen') ?_
      repeat refine NeedW.mk trivial ?_
      refine ⟨k - 1, _, by omega, le_of hA (mv := []) (τ := [(4, some 4), (2, some 2), (0, some 0), (20, some 37)]) ?_, z', n', cs', ec', by omega, by omega, hfl', by omega, e1, e2, rfl⟩
      cbv; subst hA; simp [Ar.std, hz, lec, hn', ← hec']
      exact cec'
    · rename_i hne
      have hne : z = i := by subst hA; simpa [Ar.std] using hne
      rw [if_pos hne] at hfr
      repeat refine NeedW.mk trivial ?_
      refine NeedW.mk (inc_ok hA hz0 hlt hlen') ?_
      repeat refine NeedW.mk trivial ?_
      refine ⟨k - 1, _, by omega, le_of hA (mv := []) (τ := [(4, some 4), (2, some 2), (0, some 0), (20, some 20)]) ?_, z', n, cs, ec, by omega, by omega, hn, by omega, hec, hfr, rfl⟩
      cbv; subst hA; simp [Ar.std, hz]
      exact cec
  · rename_i hge
    replace hge := ge_row hA hz0 hge
    rw [List.drop_eq_nil_of_le (by omega)] at hfr
    simp only [othersGo, List.append_nil] at hfr
    have e1 : ec = ef := by rw [hec, hef, hfr]
    have lef : ef.length = n := e1 ▸ lec
    subst e1
    clear hfr hef hec
    repeat refine NeedW.mk trivial ?_
    refine callRM hA 23 (mv := [20]) [(0, 0), (1, 2), (2, 4)] c2 (by cbv) (by cbv; subst hA; simp [Ar.std, lec]; exact cec) (by cbv; subst hA; simp [Ar.std, ← lec]) rfl ?_
    cbv
    repeat refine NeedW.mk trivial ?_
    refine .mk rfl trivial
end L12
namespace L12
open Go Go.Abs Go.Proofs
set_option maxRecDepth 100000
theorem clone_i64m {es : List (List V)} {n : Nat} (hn : es.length = n) (hlen : es.length * 8 ≤ 140737488355328) (hone : OneE es) (hcl : ClE es) :
    Sound Try.prog 49 [.msl 1 0 0 n] 1 [(0, .arr 2 1 es)] (.msl 1 1 0 n) [(0, .arr 2 1 es), (1, .arr 2 1 es)] 2 := by
  refine sound_ofL tbl_ok mix Try.func49 rfl rfl (of_decide_eq_true rfl) ?_
  generalize Try.prog = P
  generalize hA : Ar.std = A
  cbv
  repeat refine NeedW.mk trivial ?_
  refine .mk fun b hb => ?_
  cbv
  repeat refine NeedW.mk trivial ?_
  split <;> cbv
  · rename_i h
    have h0 : n = 0 := hb (by subst hA; simpa [Ar.std] using h)
    have he : es = [] := List.eq_nil_of_length_eq_zero (by omega)
    repeat refine NeedW.mk trivial ?_
    refine .mk { t := [(2, .msl 1 1 0 n)], m := [(0, .arr 2 1 es), (1, .arr 2 1 es)], nx := 2 } (le_of hA (mv := []) (τ := [(0, some 0), (1, none)]) ?_) ?_
    · cbv; simp [h0, he]; try (intro e he; simp at he)
    · cbv
      refine .mk rfl ?_
      simp
      exact hcl
  · repeat refine NeedW.mk trivial ?_
    refine NeedW.mk (by
      have ht := List.take_of_length_le (Nat.le_of_eq hn)
      subst hA; simp [Ar.std, hn, ht]; exact ⟨hone, by omega⟩) ?_
    repeat refine NeedW.mk trivial ?_
    have ht := List.take_of_length_le (Nat.le_of_eq hn)
    refine .mk { t := [(2, .msl 1 1 0 n)], m := [(0, .arr 2 1 es), (1, .arr 2 1 es)], nx := 2 } (le_of hA (mv := []) (τ := [(0, some 0), (1, some 7)]) ?_) ?_
    · cbv; subst hA; simp [Ar.std, hn, ht]; exact hcl
    · cbv
      refine .mk rfl ?_
      simp
      exact hcl
theorem worth_okm {ei es : List (List V)} {inn : List Int} (hes : es = inn.map cellI) {n : Nat} (hn : es.length = n) {back rate fixed bound r : Int} (hlen : (inn.length + 1) * 8 ≤ 140737488355328) (hr : r = worthS inn back rate fixed) :
    Sound Try.prog 23 [.agg [.row 1 ei, .msl 1 0 0 n, .at (.int .i64 back), .at (.int .i64 rate), .at (.int .i64 fixed), .at (.int .i64 bound)]] 1 [(0, .arr 2 1 es)] (.at (.int .i64 r)) [(0, .arr 2 1 es)] 1 := by
  refine sound_ofL tbl_ok mix Try.func23 rfl rfl (of_decide_eq_true rfl) ?_
  unfold worthS at hr
  have hcl : ClE es := cl_int hes
  have hone : OneE es := by rw [hes]; intro e he x hx; obtain ⟨y, _, rfl⟩ := List.mem_map.1 he; simp [cellI] at hx; subst hx; rfl
  have hl : es.length = inn.length := by rw [hes]; simp
  have e1 := clone_i64m hn (by omega) hone hcl
  obtain ⟨s, s', h1⟩ : ∃ s s', (s, s') = sumS (inn ++ [back]) := ⟨_, _, rfl⟩
  have e2 := sum_ok (by simp; omega) h1
  rw [← h1] at hr
  obtain ⟨m, m', h2⟩ : ∃ y y', (y, y') = mulS rate s := ⟨_, _, rfl⟩
  have e3 := mul_ok h2
  simp only at hr
  rw [← h2] at hr
  obtain ⟨t, t', h3⟩ : ∃ y y', (y, y') = addS fixed m := ⟨_, _, rfl⟩
  have e4 := add_ok h3
  simp only at hr
  rw [← h3] at hr
  clear h1 h2 h3
  have ha : ((inn ++ [back]).map fun n => [V.at (.int .i64 n)]) = es ++ [[.at (.int .i64 back)]] := by rw [hes]; simp [cellI]
  rw [ha] at e2
  clear ha hes
  obtain ⟨es2, hes2⟩ : ∃ x, x = es ++ [[V.at (.int .i64 back)]] := ⟨_, rfl⟩
  rw [← hes2] at e2
  generalize Try.prog = P at *
  generalize hA : Ar.std = A
  cbv
  repeat refine NeedW.mk trivial ?_
  refine .mk rfl ?_
  cbv
  repeat refine NeedW.mk trivial ?_
  refine callR hA 7 [(0, 0)] e1 (by cbv; simp; exact hcl) rfl (by cbv; simp; exact hcl) ?_
  cbv
  repeat refine NeedW.mk trivial ?_
  refine NeedW.mk ?_ ?_
  · subst hA
    simp [Ar.std, hn, V.one, Value.oneCell']
    omega
  refine callV hA [12] e2 (by
    cbv; subst hA; simp [Ar.std, hn]
    intro e he x hx
    rcases he with he | rfl
    · exact hcl e he x hx
    · simp at hx; subst hx; rfl) (by cbv; subst hA; simp [Ar.std, hn, hes2]; rw [List.take_of_length_le (by simp [hn])]) rfl rfl ?_
  cbv
  repeat refine NeedW.mk trivial ?_
  clear e1 e2
  repeat' (first
    | refine NeedW.mk trivial ?_
    | (refine call0 e3 rfl rfl ?_; cbv)
    | (refine call0 e4 rfl rfl ?_; cbv)
    | (split <;> cbv))
  all_goals (refine .mk { t := [(2, .at (.int .i64 r))], m := [(0, .arr 2 1 es)], nx := 1 } (le_of hA (mv := []) (τ := [(0, some 0)]) ?_) (by cbv; refine .mk rfl ?_; simp; exact hcl))
  all_goals (cbv; rw [hr]; subst hA; simp_all [Ar.std])
  all_goals exact hcl
theorem make_ok {w : Wld} (hw : WOk w) {ids : List Int} (hlen : ids.length ≤ 1000000) {es : List (List V)} (hes : es = ids.map cellI) {c : Crt} {e : Int} (hr : (c, e) = makeS w ids) {vi vn : List (List V)} (hvi : vi = c.ids.map cellI) (hvn : vn = c.inn.map cellI) :
    Sound Try.prog 12 [.agg (encW w), .row 1 es] 0 [] (.tup [.agg [.row 1 vi, .row 1 vn, .at (.int .i64 c.back), .at (.int .i64 c.rate), .at (.int .i64 c.fixed), .at (.int .i64 c.bound)], .at (.int .i64 e)]) [] 0 := by
  refine sound_ofL tbl_ok mix Try.func12 rfl rfl (of_decide_eq_true rfl) ?_
  have hl : es.length = ids.length := by subst hes; simp
  obtain ⟨w0, hw0⟩ : ∃ x, x = worldS w := ⟨_, rfl⟩
  have c1 := world_ok hw hw0
  obtain ⟨n, hn⟩ : ∃ x, x = ids.length := ⟨_, rfl⟩
  obtain ⟨sd, hsd⟩ : ∃ x, x = sortI ids := ⟨_, rfl⟩
  obtain ⟨q, hq⟩ : ∃ x, x = (compI sd).length := ⟨_, rfl⟩
  obtain ⟨ed', hed'⟩ : ∃ x, x = sd.map cellI := ⟨_, rfl⟩
  obtain ⟨ec, hec⟩ : ∃ x, x = compE sd := ⟨_, rfl⟩
  have hL : LOk ids.length := by show ids.length ≤ _; omega
  have lsd : sd.length = n := by rw [hsd, hn, sortI_length]
  have led : ed'.length = n := by rw [hed', List.length_map, lsd]
  have c2 := @values_ok es
  have c3 := sortedr_ok hes (hsd ▸ hed') hL (by omega)
  have c4 := @clone_int ed' (by omega) (by
      rw [hed']; intro e he
      obtain ⟨y, _, rfl⟩ := List.mem_map.1 he
      simp [cellI, V.one, Value.oneCell']) (cl_int hed')
  have c5 := compact_ok hed' (by show sd.length ≤ _; omega) (n := n) lsd.symm hq hec
  rw [led] at c4
  have c6 := fun id r h => @find_ok w.orders id r hw.o h
  have hc := cl_int hes
  have hcd := cl_int hed'
  have hce : ClE ec := by
    rw [hec]; unfold compE; split
    · exact cl_int rfl
    · intro e he x hx
      rcases List.mem_append.1 he with he | he
      · exact cl_int rfl e he x hx
      · rw [List.mem_replicate] at he
        rw [he.2] at hx
        simp at hx
        subst hx; rfl
  obtain ⟨G, hG⟩ : ∃ x, x = ordersGo w.orders sd [] := ⟨_, rfl⟩
  unfold makeS at hr
  rw [← hsd, ← hq, ← hn, ← hw0, ← hG] at hr
  have c7 := fun l h i h0 hi d hd el hel => @in_ok w hw l h i h0 hi d hd el hel
  have c8 := fun o d hd => @make1_ok w hw o d hd
  have c9 : ∀ (qs : List Ord) (acc : List (List V)) (back : Int), acc = qs.map encO → back = leastS (fun o => farS w o.node 0) qs → qs.length ≤ 1000000 →
      Sound Try.prog 30 [.row 8 acc, .fn (.func 31) [] [.bptr 0 0]] 1 [(0, .box 28 (encW w))] (.at (.int .i64 back)) [(0, .box 28 (encW w))] 1 := by
    intro qs acc back hacc hb hq
    refine @least_order acc 31 w.n _ _ _ _ (onO fun o => farS w o.node 0) back (by rw [hacc, List.length_map]; show qs.length ≤ _; omega) (by rw [hacc]; exact encO_shape) ?_ ?_
    · intro c0 c1 c2 c3 c4 c5 c6 c7 _
      exact c8 ⟨c0, c1, c2, c3, c4, c5, c6, c7⟩ _ rfl
    · rw [hb, hacc]
      exact (leastS_map encO _ _ (fun o => onO_enc _ o) qs).symm
  obtain ⟨rate, hrate⟩ : ∃ x, x = leastS Trk.rate w.trucks := ⟨_, rfl⟩
  obtain ⟨fixd, hfixd⟩ : ∃ x, x = leastS Trk.fixed w.trucks := ⟨_, rfl⟩
  have c10 : Sound Try.prog 33 [.row 7 (w.trucks.map encT), .fn (.func 34) [] []] 0 [] (.at (.int .i64 rate)) [] 0 := by
    refine @least_truck _ 34 (onT fun o => o.rate) rate (by rw [List.length_map]; exact hw.k) encT_shape ?_ ?_
    · intro c0 c1 c2 c3 c4 c5 c6 _
      exact @make2_ok ⟨c0, c1, c2, c3, c4, c5, c6⟩
    · rw [hrate]
      exact (leastS_map encT _ _ (fun o => onT_enc _ o) w.trucks).symm
  have c11 : Sound Try.prog 33 [.row 7 (w.trucks.map encT), .fn (.func 35) [] []] 0 [] (.at (.int .i64 fixd)) [] 0 := by
    refine @least_truck _ 35 (onT fun o => o.fixed) fixd (by rw [List.length_map]; exact hw.k) encT_shape ?_ ?_
    · intro c0 c1 c2 c3 c4 c5 c6 _
      exact @make3_ok ⟨c0, c1, c2, c3, c4, c5, c6⟩
    · rw [hfixd]
      exact (leastS_map encT _ _ (fun o => onT_enc _ o) w.trucks).symm
  have c12 := fun es inn hes n hn back r h1 h2 => @worth_okm ed' es inn hes n hn back rate fixd 0 r h1 h2
  clear c8
  unfold fullS at hr
  rw [← hrate, ← hfixd] at hr
  unfold encW at *
  obtain ⟨eo, heo⟩ : ∃ x, x = w.orders.map encO := ⟨_, rfl⟩
  obtain ⟨ek, hek⟩ : ∃ x, x = w.trucks.map encT := ⟨_, rfl⟩
  rw [← heo] at c1 c6 c9 ⊢
  rw [← hek] at c1 c9 c10 c11 ⊢
  obtain ⟨ed, hed⟩ : ∃ x, x = w.dist.map cellI := ⟨_, rfl⟩
  obtain ⟨et, het⟩ : ∃ x, x = w.time.map cellI := ⟨_, rfl⟩
  obtain ⟨wn, hwn⟩ : ∃ x, x = w.n := ⟨_, rfl⟩
  rw [← hed, ← het, ← hwn] at c1 c7 c9 ⊢
  have hpr : Try.prog = Try.prog := rfl
  generalize hP : Try.prog = P at *
  generalize hA : Ar.std = A
  cbv
  repeat refine NeedW.mk trivial ?_
  refine call0 c1 rfl rfl ?_
  cbv
  repeat refine NeedW.mk trivial ?_
  split <;> cbv
  · rename_i hne
    have hne : w0 ≠ 0 := by subst hA; simpa [Ar.std] using hne
    rw [if_pos hne] at hr
    simp only [Prod.mk.injEq] at hr
    obtain ⟨rfl, he⟩ := hr
    obtain rfl : vi = [] := hvi
    obtain rfl : vn = [] := hvn
    repeat refine NeedW.mk trivial ?_
    refine .mk { t := [(4, .bptr 2 0), (5, .at (.int .i64 e))], m := [(2, .box 31 [.row 1 [], .row 1 [], .at (.int .i64 0), .at (.int .i64 0), .at (.int .i64 0), .at (.int .i64 0)])], nx := 3 } (le_of hA (mv := []) (τ := [(2, some 2)]) ?_) ?_
    · cbv
      simp [he]
    · cbv
      refine .mk rfl ?_
      trivial
  rename_i hne
  have hne : w0 = 0 := by subst hA; simpa [Ar.std] using hne
  rw [if_neg (by simp [hne])] at hr
  repeat refine NeedW.mk trivial ?_
  refine callR hA 12 [] c2 (by cbv) rfl (by cbv) ?_
  cbv
  repeat refine NeedW.mk trivial ?_
  refine callR hA 14 [(0, 11)] c3 (by cbv) rfl (by cbv) ?_
  cbv
  repeat refine NeedW.mk trivial ?_
  refine callR hA 22 [] c4 (by cbv; simp; exact hcd) rfl (by cbv; try (simp; exact hcd)) ?_
  cbv
  repeat refine NeedW.mk trivial ?_
  refine callR hA 22 [(0, 21)] c5 (by cbv; simp; exact ⟨hcd, hce⟩) rfl (by cbv; simp; exact hcd) ?_
  cbv
  repeat refine NeedW.mk trivial ?_
  split <;> cbv
  · rename_i h1
    have h1 : q < n := by subst hA; simp [Ar.std] at h1; omega
    rw [if_pos h1] at hr
    simp only [Prod.mk.injEq] at hr
    obtain ⟨rfl, he⟩ := hr
    obtain rfl : vi = [] := hvi
    obtain rfl : vn = [] := hvn
    repeat refine NeedW.mk trivial ?_
    refine .mk { t := [(4, .bptr 2 0), (5, .at (.int .i64 e))], m := [(2, .box 31 [.row 1 [], .row 1 [], .at (.int .i64 0), .at (.int .i64 0), .at (.int .i64 0), .at (.int .i64 0)])], nx := 3 } (le_of hA (mv := []) (τ := [(2, some 2)]) ?_) ?_
    · cbv
      simp [he]
    · cbv
      refine .mk rfl ?_
      trivial
  rename_i h1
  have h1 : ¬ q < n := by subst hA; simp [Ar.std] at h1; omega
  rw [if_neg h1] at hr
  repeat refine NeedW.mk trivial ?_
  have hget : ∀ z x, sd[Int.toNat z]? = some x → ed'[Int.toNat z]? = some [V.at (.int .i64 x)] := fun z x h => by subst hed'; simp [h, cellI]
  have hll : ed'.length = sd.length := by rw [led, lsd]
  clear hw0 c1 c2 c3 c4 c5 hq hec hce hes
  refine .mk (fun k s => ∃ (z : Int) (m : Nat) (qs : List Ord) (acc : List (List V)), 0 ≤ z ∧ k + z.toNat = sd.length ∧ m = qs.length ∧ m = z.toNat ∧ acc = qs.map encO ∧ G = ordersGo w.orders (sd.drop z.toNat) qs ∧
    s = { t := [(35, .at (.int .i64 z)), (34, .at (.int .i64 (A.nat (A.len ed')))), (33, .row 1 ed'), (8, .msl 8 40 0 m), (7, .bptr 16 0), (4, .bptr 2 0), (2, .bptr 0 0)], m := [(16, .box 31 [.row 1 ed', .at (.slice none 0 0), .at (.int .i64 0), .at (.int .i64 0), .at (.int .i64 0), .at (.int .i64 0)]), (2, .box 31 [.row 1 [], .row 1 [], .at (.int .i64 0), .at (.int .i64 0), .at (.int .i64 0), .at (.int .i64 0)]), (0, .box 28 [.at (.int .i64 wn), .row 1 ed, .row 1 et, .row 8 eo, .row 7 ek]), (40, .arr 48 8 acc)], nx := 41 }) sd.length _ (le_of hA (mv := []) (τ := [(16, some 16), (2, some 2), (0, some 0), (40, none)]) ?_) ⟨0, 0, [], [], by simp, by simp, by simp, by simp, by simp, by simpa using hG, rfl⟩ ?_
  · cbv <;> simp
  clear hG
  rintro k s ⟨z, m, qs, acc, h0, hk, hm, hmz, hacc, hG, rfl⟩
  have cq : ∀ q : List Ord, ClE (q.map encO) := fun q e he x hx => by
    obtain ⟨y, _, rfl⟩ := List.mem_map.1 he
    simp [encO] at hx
    rcases hx with rfl | rfl | rfl | rfl | rfl | rfl | rfl | rfl <;> rfl
  have cacc : ClE acc := hacc ▸ cq _
  have lacc : acc.length = m := by rw [hacc, hm]; simp
  cbv
  repeat refine NeedW.mk trivial ?_
  split <;> cbv
  · rename_i hlt
    replace hlt := lt_row hA h0 hlt
    obtain ⟨x, hx⟩ := get_lt (l := sd) (hll ▸ hlt)
    obtain ⟨z', hz⟩ : ∃ z', z' = z + 1 := ⟨_, rfl⟩
    rw [drop_cons h0 hx, ← hz] at hG
    simp only [ordersGo] at hG
    repeat refine NeedW.mk trivial ?_
    refine .mk _ h0 (hget z x hx) ?_
    cbv
    repeat refine NeedW.mk trivial ?_
    obtain ⟨f, hf⟩ : ∃ f, f = findS w.orders x := ⟨_, rfl⟩
    rw [← hf] at hG
    refine call0 (c6 x f hf) rfl rfl ?_
    cbv
    repeat refine NeedW.mk trivial ?_
    split <;> cbv
    · rename_i hneg
      have hneg : f < 0 := by subst hA; simpa [Ar.std] using hneg
      rw [if_pos hneg] at hG
      rw [hG] at hr
      simp only at hr
      simp only [Prod.mk.injEq] at hr
      obtain ⟨rfl, he⟩ := hr
      obtain rfl : vi = [] := hvi
      obtain rfl : vn = [] := hvn
      repeat refine NeedW.mk trivial ?_
      refine .mk { t := [(4, .bptr 2 0), (5, .at (.int .i64 e))], m := [(2, .box 31 [.row 1 [], .row 1 [], .at (.int .i64 0), .at (.int .i64 0), .at (.int .i64 0), .at (.int .i64 0)])], nx := 3 } (le_of hA (mv := []) (τ := [(2, some 2)]) ?_) ?_
      · cbv
        simp [he]
      · cbv
        refine .mk rfl ?_
        trivial
    · rename_i hneg
      have hneg : ¬ f < 0 := by subst hA; simpa [Ar.std] using hneg
      rw [if_neg hneg] at hG
      have hrange := findS_range (l := w.orders) (id := x) (by rw [← hf]; exact hneg)
      rw [← hf] at hrange
      have hgo : eo[f.toNat]? = some (encO (w.orders.getD f.toNat default)) := by
        rw [heo, List.getElem?_map, List.getD_eq_getElem?_getD, List.getElem?_eq_getElem hrange]
        rfl
      obtain ⟨o, ho⟩ : ∃ o, o = w.orders.getD f.toNat default := ⟨_, rfl⟩
      rw [← ho] at hG hgo
      obtain ⟨acc', hacc'⟩ : ∃ acc', acc' = acc ++ [encO o] := ⟨_, rfl⟩
      obtain ⟨m', hm'⟩ : ∃ m', m' = m + 1 := ⟨_, rfl⟩
      have e1 : acc' = (qs ++ [o]).map encO := by rw [hacc', hacc]; simp
      have cacc' : ClE acc' := e1 ▸ cq _
      clear ho
      obtain ⟨a0, a1, a2, a3, a4, a5, a6, a7⟩ := o
      unfold encO at hgo hacc'
      have hf0 : 0 ≤ f := by omega
      repeat refine NeedW.mk trivial ?_
      refine .mk _ hf0 hgo ?_
      cbv
      repeat refine NeedW.mk trivial ?_
      refine NeedW.mk (by subst hA; simp [Ar.std, lacc, V.one, Value.oneCell']; omega) ?_
      repeat refine NeedW.mk trivial ?_
      have hlen' : LOk ed'.length := by show ed'.length ≤ _; omega
      refine NeedW.mk (inc_ok hA h0 hlt hlen') ?_
      repeat refine NeedW.mk trivial ?_
      refine ⟨k - 1, _, by omega, le_of hA (mv := []) (τ := [(16, some 16), (2, some 2), (0, some 0), (40, some 60)]) ?_, z', m', qs ++ [⟨a0, a1, a2, a3, a4, a5, a6, a7⟩], acc', by omega, by omega, by simp; omega, by omega, e1, hG, rfl⟩
      cbv; subst hA; simp [Ar.std, hz, lacc, hm', ← hacc']
      exact cacc'
  · rename_i hge
    replace hge := ge_row hA h0 hge
    rw [List.drop_eq_nil_of_le (by omega)] at hG
    simp only [ordersGo] at hG
    rw [hG] at hr
    simp only at hr
    clear c6 hget hG
    split <;> cbv
    · rename_i h2
      have h2 : qs.length = 0 := by subst hA; simp [Ar.std] at h2; omega
      rw [if_pos h2] at hr
      simp only [Prod.mk.injEq] at hr
      obtain ⟨rfl, he⟩ := hr
      obtain rfl : vi = ed' := hvi.trans hed'.symm
      obtain rfl : vn = [] := hvn
      repeat refine NeedW.mk trivial ?_
      refine .mk { t := [(4, .bptr 2 0), (5, .at (.int .i64 e))], m := [(2, .box 31 [.row 1 vi, .row 1 [], .at (.int .i64 0), .at (.int .i64 0), .at (.int .i64 0), .at (.int .i64 0)])], nx := 3 } (le_of hA (mv := []) (τ := [(2, some 2)]) ?_) ?_
      · cbv
        simp [he]
      · cbv
        refine .mk rfl ?_
        trivial
    rename_i h2
    have h2 : ¬ qs.length = 0 := by subst hA; simp [Ar.std] at h2; omega
    rw [if_neg h2] at hr
    repeat refine NeedW.mk trivial ?_
    obtain ⟨ins, hins⟩ : ∃ x : Nat → List Int, ∀ k, x k = (List.range k).map fun (i : Nat) => inS w qs (i : Int) := ⟨_, fun _ => rfl⟩
    obtain ⟨M, hM⟩ : ∃ x : Int, x = (m : Int) := ⟨_, rfl⟩
    have hMA : A.nat m = M := by subst hA; simp [Ar.std, hM]
    have hM2 : M.toNat = m := by omega
    have hM3 : 0 ≤ M ∧ M ≤ 1000000 := by omega
    refine .mk (fun k s => ∃ (z2 : Int) (n2 : Nat) (ei : List (List V)), 0 ≤ z2 ∧ k + z2.toNat = m ∧ n2 = z2.toNat ∧ ei = (ins n2).map cellI ∧
      s = { t := [(61, .at (.int .i64 z2)), (60, .at (.int .i64 M)), (8, .row 8 acc), (7, .bptr 16 0), (4, .bptr 2 0), (2, .bptr 0 0)], m := [(16, .box 31 [.row 1 ed', .msl 1 50 0 n2, .at (.int .i64 0), .at (.int .i64 0), .at (.int .i64 0), .at (.int .i64 0)]), (2, .box 31 [.row 1 [], .row 1 [], .at (.int .i64 0), .at (.int .i64 0), .at (.int .i64 0), .at (.int .i64 0)]), (0, .box 28 [.at (.int .i64 wn), .row 1 ed, .row 1 et, .row 8 eo, .row 7 ek]), (50, .arr 2 1 ei)], nx := 51 }) m _ (le_of hA (mv := [40]) (τ := [(16, some 16), (2, some 2), (0, some 0), (50, none)]) ?_) ⟨0, 0, [], by simp, by simp, by simp, by simp [hins], rfl⟩ ?_
    · cbv; subst hA; simp [Ar.std, lacc, hM]; exact ⟨by rw [List.take_of_length_le (by omega)], cacc⟩
    clear hM hMA
    rintro k2 s2 ⟨z2, n2, ei, g0, gk, gn, hei, rfl⟩
    have cei : ClE ei := cl_int hei
    have lei : ei.length = n2 := by rw [hei, List.length_map, hins, List.length_map, List.length_range]
    cbv
    repeat refine NeedW.mk trivial ?_
    split <;> cbv
    · rename_i hlt2
      have hlt2 : z2 < M := by subst hA; simpa [Ar.std] using hlt2
      obtain ⟨z2', hz2⟩ : ∃ z', z' = z2 + 1 := ⟨_, rfl⟩
      obtain ⟨d, hd⟩ : ∃ x, x = inS w qs z2 := ⟨_, rfl⟩
      have c7' := c7 qs (by omega) z2 g0 (by omega) d hd acc hacc
      obtain ⟨n2', hn2'⟩ : ∃ x, x = n2 + 1 := ⟨_, rfl⟩
      obtain ⟨ei', hei'⟩ : ∃ x, x = ei ++ [cellI d] := ⟨_, rfl⟩
      have e1 : ei' = (ins n2').map cellI := by
        rw [hei', hn2', hins, List.range_succ, List.map_append, List.map_append, ← hins, hei, hd, show z2 = (n2 : Int) by omega]; rfl
      have cei' : ClE ei' := cl_int e1
      unfold cellI at hei'
      clear c7 hd
      repeat refine NeedW.mk trivial ?_
      refine .mk rfl ?_
      cbv
      repeat refine NeedW.mk trivial ?_
      refine call0 c7' rfl rfl ?_
      cbv
      repeat refine NeedW.mk trivial ?_
      refine NeedW.mk (by subst hA; simp [Ar.std, lei, V.one, Value.oneCell']; omega) ?_
      repeat refine NeedW.mk trivial ?_
      refine NeedW.mk (by subst hA; refine inr64 ?_; simp only [Ar.std]; omega) ?_
      repeat refine NeedW.mk trivial ?_
      refine ⟨k2 - 1, _, by omega, le_of hA (mv := []) (τ := [(16, some 16), (2, some 2), (0, some 0), (50, some 63)]) ?_, z2', n2', ei', by omega, by omega, by omega, e1, rfl⟩
      cbv; subst hA; simp [Ar.std, hz2, lei, hn2', ← hei']
      exact cei'
    · rename_i hge2
      have hge2 : ¬ z2 < M := by subst hA; simpa [Ar.std] using hge2
      have hnm : n2 = qs.length := by omega
      have e1 : insS w qs = ins n2 := by rw [hins, hnm]; rfl
      rw [e1] at hr
      obtain ⟨back, hback⟩ : ∃ x, x = leastS (fun o => farS w o.node 0) qs := ⟨_, rfl⟩
      have c9' := c9 qs acc back hacc hback (by omega)
      rw [← hback] at hr
      obtain ⟨inn, hinn⟩ : ∃ x, x = ins n2 := ⟨_, rfl⟩
      rw [← hinn] at hr hei
      obtain ⟨bnd, hbnd⟩ : ∃ x, x = worthS inn back rate fixd := ⟨_, rfl⟩
      rw [← hbnd] at hr
      have linn : inn.length = n2 := by rw [← lei, hei, List.length_map]
      have c12' := c12 ei inn hei n2 lei back bnd (by omega) hbnd
      simp only [Prod.mk.injEq] at hr
      obtain ⟨rfl, he⟩ := hr
      obtain rfl : vi = ed' := hvi.trans hed'.symm
      obtain rfl : vn = ei := hvn.trans hei.symm
      clear c7 c9 c12 hinn hbnd hback hins e1 hei hed'
      repeat refine NeedW.mk trivial ?_
      refine callR hA 54 [(0, 0)] c9' (by cbv) rfl (by cbv) ?_
      cbv
      repeat refine NeedW.mk trivial ?_
      refine call0 c10 rfl rfl ?_
      cbv
      repeat refine NeedW.mk trivial ?_
      refine call0 c11 rfl rfl ?_
      cbv
      repeat refine NeedW.mk trivial ?_
      refine callR hA 68 [(0, 50)] c12' (by cbv; simp; exact cei) rfl (by cbv; simp; exact cei) ?_
      cbv
      repeat refine NeedW.mk trivial ?_
      refine .mk { t := [(4, .bptr 2 0), (5, .at (.int .i64 e))], m := [(2, .box 31 [.row 1 vi, .row 1 vn, .at (.int .i64 back), .at (.int .i64 rate), .at (.int .i64 fixd), .at (.int .i64 bnd)])], nx := 3 } (le_of hA (mv := [50]) (τ := [(2, some 2)]) ?_) ?_
      · cbv; subst hA
        simp [Ar.std, he, lei]
        exact ⟨by rw [List.take_of_length_le (by omega)], cei⟩
      · cbv
        refine .mk rfl ?_
        trivial
end L12
