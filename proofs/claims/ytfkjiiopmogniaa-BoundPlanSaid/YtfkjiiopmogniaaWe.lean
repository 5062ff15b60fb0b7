/- Contracts of the functions of layer 12, each walked once over the abstract machine. -/
import Derived.Test.YtfkjiiopmogniaaWd
import Derived.Test.YtfkjiiopmogniaaAb5
namespace L12
open Go Go.Abs Go.Proofs
set_option maxRecDepth 100000
theorem holds_ok {w : Wld} (hw : WOk w) {c : Crt} (h1 : c.ids.length ≤ 1000000) (h2 : c.inn.length ≤ 1000000) {r : Bool} (hr : r = holdsS w c) :
    Sound Try.prog 11 [.agg (encW w), .agg (encC c)] 0 [] (.at (.bool r)) [] 0 := by
  refine sound_ofL tbl_ok mix Try.func11 rfl rfl (of_decide_eq_true rfl) ?_
  obtain ⟨ci, cn, cb, cr, cf, cw⟩ := c
  obtain ⟨q, e, hq⟩ : ∃ q e, (q, e) = makeS w ci := ⟨_, _, rfl⟩
  unfold holdsS at hr
  simp only at h1 h2 hr
  rw [← hq] at hr
  unfold encC
  simp only at hr ⊢
  obtain ⟨ei, hei⟩ : ∃ x, x = ci.map cellI := ⟨_, rfl⟩
  obtain ⟨en, hen⟩ : ∃ x, x = cn.map cellI := ⟨_, rfl⟩
  rw [← hei, ← hen]
  obtain ⟨qi, qn, qb, qr, qf, qw⟩ := q
  obtain ⟨ti, hti⟩ : ∃ x, x = qi.map cellI := ⟨_, rfl⟩
  obtain ⟨tn, htn⟩ : ∃ x, x = qn.map cellI := ⟨_, rfl⟩
  have c1 := make_ok hw h1 hei hq hti htn
  have li : ti.length ≤ 1000000 := by
    have := @makeS_ids w ci
    rw [← hq] at this
    rw [hti, List.length_map]
    simp only at this
    omega
  obtain ⟨b, hb⟩ : ∃ x, x = decide (qi = ci) := ⟨_, rfl⟩
  have c2 := equal_ok hti hei (by show qi.length ≤ _; rw [← List.length_map (f := cellI), ← hti]; omega) hb
  have hb' : (qi = ci) ↔ b = true := by rw [hb]; simp
  simp only [hb'] at hr
  clear hb hb'
  have c3 := fun n m r h => @bwithin_ok n m r h
  obtain ⟨v, hv⟩ : ∃ x, x = worthS cn cb cr cf := ⟨_, rfl⟩
  have c4 := @worth_ok ei cn cb cr cf cw v (by omega) hv
  rw [← hv] at hr
  rw [← hen] at c4
  simp only at c1 hr
  unfold encW at *
  generalize w.dist.map cellI = ed at *
  generalize w.time.map cellI = et at *
  generalize w.orders.map encO = eo at *
  generalize w.trucks.map encT = ek at *
  generalize w.n = wn at *
  have hln : en.length = cn.length := by rw [hen, List.length_map]
  have hlt : tn.length = qn.length := by rw [htn, List.length_map]
  have hgn : ∀ z x, cn[Int.toNat z]? = some x → en[Int.toNat z]? = some [V.at (.int .i64 x)] := fun z x h => by subst hen; simp [h, cellI]
  have hgt : ∀ z x, qn[Int.toNat z]? = some x → tn[Int.toNat z]? = some [V.at (.int .i64 x)] := fun z x h => by subst htn; simp [h, cellI]
  clear hti htn hei hen hq hv
  generalize Try.prog = P at *
  generalize hA : Ar.std = A
  cbv
  repeat refine NeedW.mk trivial ?_
  refine call0 c1 rfl rfl ?_
  cbv
  repeat refine NeedW.mk trivial ?_
  split <;> cbv
  · rename_i g1
    have g1 : e = 0 := by subst hA; simpa [Ar.std] using g1
    rw [if_neg (by simp [g1])] at hr
    repeat refine NeedW.mk trivial ?_
    refine call0 c2 rfl rfl ?_
    cbv
    repeat refine NeedW.mk trivial ?_
    split <;> cbv
    · rename_i g2
      have g2 : b = true := by subst hA; cases b <;> simp_all [Ar.std]
      rw [if_pos g2] at hr
      repeat refine NeedW.mk trivial ?_
      split <;> cbv
      · rename_i g3
        have g3 : cn.length ≠ qn.length := by subst hA; simp [Ar.std] at g3; omega
        rw [if_pos g3] at hr
        repeat refine NeedW.mk trivial ?_
        refine .mk { t := [(4, .at (.bool r))], m := [], nx := 0 } (le_of hA (mv := []) (τ := []) ?_) ?_
        · cbv; simp [hr]
        · cbv
          refine .mk rfl ?_
          trivial
      · rename_i g3
        have g3 : cn.length = qn.length := by subst hA; simp [Ar.std] at g3; omega
        rw [if_neg (by simp [g3])] at hr
        repeat refine NeedW.mk trivial ?_
        obtain ⟨W, hW⟩ : ∃ x, x = winsGo cn qn := ⟨_, rfl⟩
        rw [← hW] at hr
        refine .mk (fun k s => ∃ (z : Int), 0 ≤ z ∧ k + z.toNat = cn.length ∧ W = winsGo (cn.drop z.toNat) (qn.drop z.toNat) ∧
          s = { t := [(38, .at (.int .i64 z)), (37, .at (.int .i64 (A.nat (A.len en)))), (36, .row 1 en), (5, .bptr 12 0), (3, .bptr 2 0)], m := [(12, .box 31 [.row 1 ti, .row 1 tn, .at (.int .i64 qb), .at (.int .i64 qr), .at (.int .i64 qf), .at (.int .i64 qw)]), (2, .box 31 [.row 1 ei, .row 1 en, .at (.int .i64 cb), .at (.int .i64 cr), .at (.int .i64 cf), .at (.int .i64 cw)])], nx := 13 }) cn.length _ (le_of hA (mv := []) (τ := [(12, some 12), (2, some 2)]) ?_) ⟨0, by simp, by simp, by simpa using hW, rfl⟩ ?_
        · cbv <;> simp
        clear hW
        rintro k s ⟨z, h0, hk, hW, rfl⟩
        cbv
        repeat refine NeedW.mk trivial ?_
        split <;> cbv
        · rename_i hlt
          replace hlt := lt_row hA h0 hlt
          obtain ⟨x, hx⟩ := get_lt (l := cn) (hln ▸ hlt)
          obtain ⟨y, hy⟩ := get_lt (l := qn) (z := z) (by omega)
          obtain ⟨z', hz⟩ : ∃ z', z' = z + 1 := ⟨_, rfl⟩
          rw [drop_cons h0 hx, drop_cons h0 hy, ← hz] at hW
          simp only [winsGo] at hW
          obtain ⟨u, hu⟩ : ∃ u, u = winS x y := ⟨_, rfl⟩
          rw [← hu] at hW
          have c3' := c3 x y u hu
          have hgn' := hgn z x hx
          have hgt' := hgt z y hy
          clear c3 hu hx hy hgn hgt
          have hlen' : LOk en.length := by show en.length ≤ _; omega
          repeat refine NeedW.mk trivial ?_
          refine .mk _ h0 hgn' ?_
          cbv
          repeat refine NeedW.mk trivial ?_
          refine .mk _ h0 hgt' ?_
          cbv
          repeat refine NeedW.mk trivial ?_
          refine call0 c3' rfl rfl ?_
          cbv
          repeat refine NeedW.mk trivial ?_
          split <;> cbv
          · rename_i g4
            have g4 : u = false := by subst hA; cases u <;> simp_all [Ar.std]
            rw [g4, Bool.false_and] at hW
            rw [hW] at hr
            simp only [Bool.false_eq_true, if_false] at hr
            repeat refine NeedW.mk trivial ?_
            refine .mk { t := [(4, .at (.bool r))], m := [], nx := 0 } (le_of hA (mv := []) (τ := []) ?_) ?_
            · cbv; simp [hr]
            · cbv
              refine .mk rfl ?_
              trivial
          · rename_i g4
            have g4 : u = true := by subst hA; cases u <;> simp_all [Ar.std]
            rw [g4, Bool.true_and] at hW
            repeat refine NeedW.mk trivial ?_
            refine NeedW.mk (inc_ok hA h0 hlt hlen') ?_
            repeat refine NeedW.mk trivial ?_
            refine ⟨k - 1, _, by omega, le_of hA (mv := []) (τ := [(12, some 12), (2, some 2)]) ?_, z', by omega, by omega, hW, rfl⟩
            cbv; subst hA; simp [Ar.std, hz]
        · rename_i hge
          replace hge := ge_row hA h0 hge
          rw [List.drop_eq_nil_of_le (by omega), List.drop_eq_nil_of_le (by omega)] at hW
          simp only [winsGo] at hW
          rw [hW] at hr
          simp only [if_true] at hr
          obtain ⟨u1, hu1⟩ : ∃ u, u = winS cb qb := ⟨_, rfl⟩
          obtain ⟨u2, hu2⟩ : ∃ u, u = winS cr qr := ⟨_, rfl⟩
          obtain ⟨u3, hu3⟩ : ∃ u, u = winS cf qf := ⟨_, rfl⟩
          rw [← hu1, ← hu2, ← hu3] at hr
          have d1 := c3 _ _ _ hu1
          have d2 := c3 _ _ _ hu2
          have d3 := c3 _ _ _ hu3
          clear c3 hu1 hu2 hu3 hgn hgt
          repeat refine NeedW.mk trivial ?_
          refine call0 d1 rfl rfl ?_
          cbv
          repeat refine NeedW.mk trivial ?_
          split <;> cbv
          · rename_i g5
            have g5 : u1 = true := by subst hA; cases u1 <;> simp_all [Ar.std]
            rw [if_pos g5] at hr
            repeat refine NeedW.mk trivial ?_
            refine call0 d2 rfl rfl ?_
            cbv
            repeat refine NeedW.mk trivial ?_
            split <;> cbv
            · rename_i g6
              have g6 : u2 = true := by subst hA; cases u2 <;> simp_all [Ar.std]
              rw [if_pos g6] at hr
              repeat refine NeedW.mk trivial ?_
              refine call0 d3 rfl rfl ?_
              cbv
              repeat refine NeedW.mk trivial ?_
              split <;> cbv
              · rename_i g7
                have g7 : u3 = false := by subst hA; cases u3 <;> simp_all [Ar.std]
                rw [g7] at hr
                simp only [Bool.false_eq_true, if_false] at hr
                repeat refine NeedW.mk trivial ?_
                refine .mk { t := [(4, .at (.bool r))], m := [], nx := 0 } (le_of hA (mv := []) (τ := []) ?_) ?_
                · cbv; simp [hr]
                · cbv
                  refine .mk rfl ?_
                  trivial
              · rename_i g7
                have g7 : u3 = true := by subst hA; cases u3 <;> simp_all [Ar.std]
                rw [if_pos g7] at hr
                repeat refine NeedW.mk trivial ?_
                refine .mk rfl ?_
                cbv
                repeat refine NeedW.mk trivial ?_
                refine call0 c4 rfl rfl ?_
                cbv
                repeat refine NeedW.mk trivial ?_
                refine .mk { t := [(4, .at (.bool r))], m := [], nx := 0 } (le_of hA (mv := []) (τ := []) ?_) ?_
                · cbv; subst hA; simp [Ar.std, hr]; exact Bool.eq_iff_iff.2 (by simp)
                · cbv
                  refine .mk rfl ?_
                  trivial
            · rename_i g6
              have g6 : u2 = false := by subst hA; cases u2 <;> simp_all [Ar.std]
              rw [g6] at hr
              simp only [Bool.false_eq_true, if_false] at hr
              repeat refine NeedW.mk trivial ?_
              refine .mk { t := [(4, .at (.bool r))], m := [], nx := 0 } (le_of hA (mv := []) (τ := []) ?_) ?_
              · cbv; simp [hr]
              · cbv
                refine .mk rfl ?_
                trivial
          · rename_i g5
            have g5 : u1 = false := by subst hA; cases u1 <;> simp_all [Ar.std]
            rw [g5] at hr
            simp only [Bool.false_eq_true, if_false] at hr
            repeat refine NeedW.mk trivial ?_
            refine .mk { t := [(4, .at (.bool r))], m := [], nx := 0 } (le_of hA (mv := []) (τ := []) ?_) ?_
            · cbv; simp [hr]
            · cbv
              refine .mk rfl ?_
              trivial
    · rename_i g2
      have g2 : ¬ b = true := by subst hA; cases b <;> simp_all [Ar.std]
      rw [if_neg g2] at hr
      repeat refine NeedW.mk trivial ?_
      refine .mk { t := [(4, .at (.bool r))], m := [], nx := 0 } (le_of hA (mv := []) (τ := []) ?_) ?_
      · cbv; simp [hr]
      · cbv
        refine .mk rfl ?_
        trivial
  · rename_i g1
    have g1 : e ≠ 0 := by subst hA; simpa [Ar.std] using g1
    rw [if_pos g1] at hr
    repeat refine NeedW.mk trivial ?_
    refine .mk { t := [(4, .at (.bool r))], m := [], nx := 0 } (le_of hA (mv := []) (τ := []) ?_) ?_
    · cbv; simp [hr]
    · cbv
      refine .mk rfl ?_
      trivial
end L12
namespace L12
open Go Go.Abs Go.Proofs
set_option maxRecDepth 100000
theorem same9_ok {l l' : List Int} {es es' : List (List V)} (hes : es = l.map cellI) (hes' : es' = l'.map cellI) (hlen : LOk l.length) {r : Bool} (hr : r = decide (l = l')) :
    Sound Try.prog 9 [.row 1 es, .row 1 es'] 0 [] (.at (.bool r)) [] 0 := by
  refine sound_of tbl_ok mix Try.func9 rfl rfl (of_decide_eq_true rfl) ?_
  have hl : es.length = l.length := by rw [hes, List.length_map]
  have hl' : es'.length = l'.length := by rw [hes', List.length_map]
  have hg : ∀ z x, l[Int.toNat z]? = some x → es[Int.toNat z]? = some [V.at (.int .i64 x)] := fun z x h => by subst hes; simp [h, cellI]
  have hg' : ∀ z x, l'[Int.toNat z]? = some x → es'[Int.toNat z]? = some [V.at (.int .i64 x)] := fun z x h => by subst hes'; simp [h, cellI]
  have hr1 : l.length ≠ l'.length → r = false := fun h => by rw [hr, decide_eq_false]; intro e; exact h (by rw [e])
  have hr2 : l.length = l'.length → r = decide (l.drop (0 : Int).toNat = l'.drop (0 : Int).toNat) := fun _ => by simpa using hr
  clear hr hes hes'
  generalize Try.prog = P
  generalize hA : Ar.std = A
  cbv
  repeat refine NeedW.mk trivial ?_
  split <;> cbv
  · rename_i h1
    have h1 : l.length ≠ l'.length := by subst hA; simp [Ar.std] at h1; omega
    repeat refine NeedW.mk trivial ?_
    refine .mk ?_ trivial
    rw [hr1 h1]
  rename_i h1
  have h1 : l.length = l'.length := by subst hA; simp [Ar.std] at h1; omega
  have hr := hr2 h1
  clear hr1 hr2
  repeat refine NeedW.mk trivial ?_
  refine .mk (fun k s => ∃ (z : Int), 0 ≤ z ∧ k + z.toNat = l.length ∧ r = decide (l.drop z.toNat = l'.drop z.toNat) ∧
    s = { t := [(5, .at (.int .i64 z)), (0, .row 1 es), (1, .row 1 es')], m := [], nx := 7 }) l.length _ (le_of hA (mv := []) (τ := []) ?_) ⟨0, by simp, by simp, hr, rfl⟩ ?_
  · cbv <;> simp
  clear hr
  rintro k s ⟨z, h0, hk, hr, rfl⟩
  cbv
  repeat refine NeedW.mk trivial ?_
  split <;> cbv
  · rename_i hlt
    replace hlt := lt_row hA h0 hlt
    obtain ⟨x, hx⟩ := get_lt (l := l) (hl ▸ hlt)
    obtain ⟨y, hy⟩ := get_lt (l := l') (z := z) (by omega)
    obtain ⟨z', hz⟩ : ∃ z', z' = z + 1 := ⟨_, rfl⟩
    rw [drop_cons h0 hx, drop_cons h0 hy, ← hz] at hr
    have e1 := hg z x hx
    have e2 := hg' z y hy
    clear hx hy hg hg'
    have f1 : x ≠ y → r = false := fun h => by rw [hr]; simp [h]
    have f2 : x = y → r = decide (l.drop z'.toNat = l'.drop z'.toNat) := fun h => by rw [hr]; simp [h]
    clear hr
    repeat refine NeedW.mk trivial ?_
    refine .mk rfl ?_
    cbv
    repeat refine NeedW.mk trivial ?_
    refine .mk _ h0 e1 ?_
    cbv
    repeat refine NeedW.mk trivial ?_
    refine .mk _ h0 e2 ?_
    cbv
    repeat refine NeedW.mk trivial ?_
    split <;> cbv
    · rename_i h2
      have h2 : x ≠ y := by subst hA; simpa [Ar.std] using h2
      repeat refine NeedW.mk trivial ?_
      refine .mk ?_ trivial
      rw [f1 h2]
    · rename_i h2
      have h2 : x = y := by subst hA; simpa [Ar.std] using h2
      have hr := f2 h2
      clear f1 f2
      have hlen' : LOk es.length := by show es.length ≤ _; omega
      repeat refine NeedW.mk trivial ?_
      refine NeedW.mk (inc_ok hA h0 hlt hlen') ?_
      repeat refine NeedW.mk trivial ?_
      refine ⟨k - 1, _, by omega, le_of hA (mv := []) (τ := []) ?_, z', by omega, by omega, hr, rfl⟩
      cbv; subst hA; simp [Ar.std, hz]
  · rename_i hge
    replace hge := ge_row hA h0 hge
    rw [List.drop_eq_nil_of_le (by omega), List.drop_eq_nil_of_le (by omega)] at hr
    have hr : r = true := by rw [hr]; simp
    repeat refine NeedW.mk trivial ?_
    refine .mk ?_ trivial
    rw [hr]
theorem ints_ok {l l' : List Int} {es es' : List (List V)} (hes : es = l.map cellI) (hes' : es' = l'.map cellI) (hlen : LOk l.length) {r : Bool} (hr : r = decide (l = l')) :
    Sound Try.prog 36 [.row 1 es, .row 1 es'] 0 [] (.at (.bool r)) [] 0 := by
  refine sound_of tbl_ok mix Try.func36 rfl rfl (of_decide_eq_true rfl) ?_
  have hl : es.length = l.length := by rw [hes, List.length_map]
  have hl' : es'.length = l'.length := by rw [hes', List.length_map]
  have hg : ∀ z x, l[Int.toNat z]? = some x → es[Int.toNat z]? = some [V.at (.int .i64 x)] := fun z x h => by subst hes; simp [h, cellI]
  have hg' : ∀ z x, l'[Int.toNat z]? = some x → es'[Int.toNat z]? = some [V.at (.int .i64 x)] := fun z x h => by subst hes'; simp [h, cellI]
  have hr1 : l.length ≠ l'.length → r = false := fun h => by rw [hr, decide_eq_false]; intro e; exact h (by rw [e])
  have hr2 : l.length = l'.length → r = decide (l.drop (0 : Int).toNat = l'.drop (0 : Int).toNat) := fun _ => by simpa using hr
  clear hr hes hes'
  generalize Try.prog = P
  generalize hA : Ar.std = A
  cbv
  repeat refine NeedW.mk trivial ?_
  split <;> cbv
  · rename_i h1
    have h1 : l.length ≠ l'.length := by subst hA; simp [Ar.std] at h1; omega
    repeat refine NeedW.mk trivial ?_
    refine .mk ?_ trivial
    rw [hr1 h1]
  rename_i h1
  have h1 : l.length = l'.length := by subst hA; simp [Ar.std] at h1; omega
  have hr := hr2 h1
  clear hr1 hr2
  repeat refine NeedW.mk trivial ?_
  refine .mk (fun k s => ∃ (z : Int), 0 ≤ z ∧ k + z.toNat = l.length ∧ r = decide (l.drop z.toNat = l'.drop z.toNat) ∧
    s = { t := [(5, .at (.int .i64 z)), (0, .row 1 es), (1, .row 1 es')], m := [], nx := 7 }) l.length _ (le_of hA (mv := []) (τ := []) ?_) ⟨0, by simp, by simp, hr, rfl⟩ ?_
  · cbv <;> simp
  clear hr
  rintro k s ⟨z, h0, hk, hr, rfl⟩
  cbv
  repeat refine NeedW.mk trivial ?_
  split <;> cbv
  · rename_i hlt
    replace hlt := lt_row hA h0 hlt
    obtain ⟨x, hx⟩ := get_lt (l := l) (hl ▸ hlt)
    obtain ⟨y, hy⟩ := get_lt (l := l') (z := z) (by omega)
    obtain ⟨z', hz⟩ : ∃ z', z' = z + 1 := ⟨_, rfl⟩
    rw [drop_cons h0 hx, drop_cons h0 hy, ← hz] at hr
    have e1 := hg z x hx
    have e2 := hg' z y hy
    clear hx hy hg hg'
    have f1 : x ≠ y → r = false := fun h => by rw [hr]; simp [h]
    have f2 : x = y → r = decide (l.drop z'.toNat = l'.drop z'.toNat) := fun h => by rw [hr]; simp [h]
    clear hr
    repeat refine NeedW.mk trivial ?_
    refine .mk rfl ?_
    cbv
    repeat refine NeedW.mk trivial ?_
    refine .mk _ h0 e1 ?_
    cbv
    repeat refine NeedW.mk trivial ?_
    refine .mk _ h0 e2 ?_
    cbv
    repeat refine NeedW.mk trivial ?_
    split <;> cbv
    · rename_i h2
      have h2 : x ≠ y := by subst hA; simpa [Ar.std] using h2
      repeat refine NeedW.mk trivial ?_
      refine .mk ?_ trivial
      rw [f1 h2]
    · rename_i h2
      have h2 : x = y := by subst hA; simpa [Ar.std] using h2
      have hr := f2 h2
      clear f1 f2
      have hlen' : LOk es.length := by show es.length ≤ _; omega
      repeat refine NeedW.mk trivial ?_
      refine NeedW.mk (inc_ok hA h0 hlt hlen') ?_
      repeat refine NeedW.mk trivial ?_
      refine ⟨k - 1, _, by omega, le_of hA (mv := []) (τ := []) ?_, z', by omega, by omega, hr, rfl⟩
      cbv; subst hA; simp [Ar.std, hz]
  · rename_i hge
    replace hge := ge_row hA h0 hge
    rw [List.drop_eq_nil_of_le (by omega), List.drop_eq_nil_of_le (by omega)] at hr
    have hr : r = true := by rw [hr]; simp
    repeat refine NeedW.mk trivial ?_
    refine .mk ?_ trivial
    rw [hr]
end L12
namespace L12
open Go Go.Abs Go.Proofs
set_option maxRecDepth 100000
theorem large8_ok {w : Wld} {n : Int} {r : Bool} (hr : r = large8S w n) :
    Sound Try.prog 14 [.agg (encW w), .at (.int .i64 n)] 0 [] (.at (.bool r)) [] 0 := by
  refine sound_ofL tbl_ok mix Try.func14 rfl rfl (of_decide_eq_true rfl) ?_
  unfold encW
  have l1 : (w.dist.map cellI).length = w.dist.length := by simp
  have l2 : (w.time.map cellI).length = w.time.length := by simp
  have l3 : (w.orders.map encO).length = w.orders.length := by simp
  have l4 : (w.trucks.map encT).length = w.trucks.length := by simp
  unfold large8S at hr
  rw [← l1, ← l2, ← l3, ← l4] at hr
  clear l1 l2 l3 l4
  generalize w.dist.map cellI = ed at *
  generalize w.time.map cellI = et at *
  generalize w.orders.map encO = eo at *
  generalize w.trucks.map encT = ek at *
  generalize w.n = wn at *
  generalize Try.prog = P
  have f1 : ∀ k : Nat, decide (50 < k) = decide ((50 : Int) < k) := fun k => decide_eq_decide.2 (by omega)
  have f2 : ∀ k : Nat, decide (400 < k) = decide ((400 : Int) < k) := fun k => decide_eq_decide.2 (by omega)
  rw [f1, f1, f2, f2] at hr
  clear f1 f2
  obtain ⟨b1, h1⟩ : ∃ b, b = decide ((50 : Int) < eo.length) := ⟨_, rfl⟩
  obtain ⟨b2, h2⟩ : ∃ b, b = decide ((50 : Int) < ek.length) := ⟨_, rfl⟩
  obtain ⟨b3, h3⟩ : ∃ b, b = decide ((400 : Int) < ed.length) := ⟨_, rfl⟩
  obtain ⟨b4, h4⟩ : ∃ b, b = decide ((400 : Int) < et.length) := ⟨_, rfl⟩
  obtain ⟨b5, h5⟩ : ∃ b, b = decide ((100 : Int) < n) := ⟨_, rfl⟩
  rw [← h1, ← h2, ← h3, ← h4, ← h5] at hr
  generalize hA : Ar.std = A
  cbv
  repeat refine NeedW.mk trivial ?_
  have g1 : A.lt 50 (A.nat (A.len eo)) = b1 := by subst hA; exact h1.symm
  have g2 : A.lt 50 (A.nat (A.len ek)) = b2 := by subst hA; exact h2.symm
  have g3 : A.lt 400 (A.nat (A.len ed)) = b3 := by subst hA; exact h3.symm
  have g4 : A.lt 400 (A.nat (A.len et)) = b4 := by subst hA; exact h4.symm
  have g5 : A.lt 100 n = b5 := by subst hA; exact h5.symm
  clear h1 h2 h3 h4 h5
  have gp : ∀ c, A.pick false true c = c := by subst hA; intro c; rfl
  repeat' (first
    | refine NeedW.mk trivial ?_
    | (split <;> cbv))
  all_goals (refine .mk { t := [(4, .at (.bool r))], m := [], nx := 0 } (le_of hA (mv := []) (τ := []) ?_) (by cbv; refine .mk rfl ?_; trivial))
  all_goals cbv
  all_goals (subst hA; simp only [Ar.std] at *; subst hr; simp_all)
theorem large9_ok {p : Pln} (hu : LOk p.unserved.length) (hrt : LOk p.routes.length) (hst : ∀ r ∈ p.routes, LOk r.stops.length) {r : Bool} (hr : r = large9S p) :
    Sound Try.prog 7 [.agg (encP p)] 0 [] (.at (.bool r)) [] 0 := by
  refine sound_ofL tbl_ok mix Try.func7 rfl rfl (of_decide_eq_true rfl) ?_
  unfold encP
  unfold large9S at hr
  obtain ⟨G, hG⟩ : ∃ x, x = countGo p.unserved.length p.routes := ⟨_, rfl⟩
  rw [← hG] at hr
  have lu : (p.unserved.map cellI).length = p.unserved.length := by simp
  rw [← lu] at hu hG
  clear lu
  generalize p.unserved.map cellI = eu at *
  obtain ⟨l, hl⟩ : ∃ x, x = p.routes := ⟨_, rfl⟩
  rw [← hl] at hrt hst hG ⊢
  obtain ⟨er, her⟩ : ∃ x, x = l.map encR := ⟨_, rfl⟩
  rw [← her]
  have hll : er.length = l.length := by rw [her, List.length_map]
  have hget : ∀ z o, l[Int.toNat z]? = some o → er[Int.toNat z]? = some (encR o) := fun z x h => by subst her; simp [h]
  clear her hl
  obtain ⟨U, hU⟩ : ∃ x : Int, x = (eu.length : Int) := ⟨_, rfl⟩
  have hUb : 0 ≤ U ∧ U ≤ 140737488355328 := by have : eu.length ≤ 140737488355328 := hu; omega
  rw [← hU] at hG
  have hUA : Ar.std.nat (Ar.std.len eu) = U := by rw [hU]; rfl
  clear hU hu
  generalize Try.prog = P
  generalize hA : Ar.std = A
  cbv
  repeat refine NeedW.mk trivial ?_
  refine .mk (fun k s => ∃ z N : Int, 0 ≤ z ∧ k + z.toNat = l.length ∧ 0 ≤ N ∧ N ≤ 300000000000000 ∧ G = countGo N (l.drop z.toNat) ∧
    s = { t := [(4, .at (.int .i64 z)), (3, .at (.int .i64 N)), (1, .bptr 0 0)], m := [(0, .box 34 [.row 2 er, .row 1 eu])], nx := 8 }) l.length _ (le_of hA (mv := []) (τ := [(0, some 0)]) ?_) ⟨0, U, by simp, by simp, by omega, by omega, by simpa using hG, rfl⟩ ?_
  · cbv; subst hA; simp only [Ar.std] at hUA ⊢; simp [hUA]
  clear hG hUA hUb
  rintro k s ⟨z, N, h0, hk, hN0, hN1, hG, rfl⟩
  cbv
  repeat refine NeedW.mk trivial ?_
  split <;> cbv
  · rename_i hlt
    replace hlt := lt_row hA h0 hlt
    obtain ⟨o, ho⟩ := get_lt (l := l) (hll ▸ hlt)
    obtain ⟨z', hz⟩ : ∃ z', z' = z + 1 := ⟨_, rfl⟩
    rw [drop_cons h0 ho, ← hz] at hG
    have hge := hget z o ho
    have hso := hst o (List.mem_of_getElem? ho)
    obtain ⟨ot, os⟩ := o
    unfold encR at hge
    simp only at hge hso
    simp only [countGo] at hG
    obtain ⟨L, hL⟩ : ∃ x : Int, x = (os.length : Int) := ⟨_, rfl⟩
    rw [← hL] at hG
    have hLb : 0 ≤ L ∧ L ≤ 140737488355328 := by omega
    obtain ⟨eo, heo⟩ : ∃ x, x = os.map cellI := ⟨_, rfl⟩
    rw [← heo] at hge
    have hLA : A.nat (A.len eo) = L := by subst hA; rw [hL, heo]; simp [Ar.std]
    clear hL hso heo ho hst hget
    repeat refine NeedW.mk trivial ?_
    split <;> cbv
    · rename_i hle
      have hle : N ≤ 200 := by subst hA; simpa [Ar.std] using hle
      rw [if_pos hle] at hG
      have hlen' : LOk er.length := by show er.length ≤ _; omega
      obtain ⟨N', hN'⟩ : ∃ x, x = N + L + 1 := ⟨_, rfl⟩
      rw [← hN'] at hG
      repeat refine NeedW.mk trivial ?_
      refine .mk _ h0 hge ?_
      cbv
      repeat refine NeedW.mk trivial ?_
      have hLS : Ar.std.nat (Ar.std.len eo) = L := by subst hA; exact hLA
      refine NeedW.mk (by subst hA; refine inr64 ?_; simp only [Ar.std] at hLS ⊢; omega) ?_
      repeat refine NeedW.mk trivial ?_
      refine NeedW.mk (by subst hA; refine inr64 ?_; simp only [Ar.std] at hLS ⊢; omega) ?_
      repeat refine NeedW.mk trivial ?_
      refine NeedW.mk (inc_ok hA h0 hlt hlen') ?_
      repeat refine NeedW.mk trivial ?_
      refine ⟨k - 1, _, by omega, le_of hA (mv := []) (τ := [(0, some 0)]) ?_, z', N', by omega, by omega, by omega, by omega, hG, rfl⟩
      cbv; subst hA; simp only [Ar.std] at hLS ⊢; simp [hz, hLS, hN']
    · rename_i hle
      have hle : ¬ N ≤ 200 := by subst hA; simpa [Ar.std] using hle
      rw [if_neg hle] at hG
      repeat refine NeedW.mk trivial ?_
      refine .mk { t := [(2, .at (.bool r))], m := [], nx := 0 } (le_of hA (mv := []) (τ := []) ?_) (by cbv; refine .mk rfl ?_; trivial)
      cbv; subst hA; rw [hr, hG]; simp [Ar.std]
  · rename_i hge
    replace hge := ge_row hA h0 hge
    rw [List.drop_eq_nil_of_le (by omega)] at hG
    simp only [countGo] at hG
    repeat refine NeedW.mk trivial ?_
    refine .mk { t := [(2, .at (.bool r))], m := [], nx := 0 } (le_of hA (mv := []) (τ := []) ?_) (by cbv; refine .mk rfl ?_; trivial)
    cbv; subst hA; rw [hr, hG]; simp [Ar.std]
end L12
namespace L12
open Go Go.Abs Go.Proofs
set_option maxRecDepth 100000
theorem large12_ok {w : Wld} {c : Crt} {r : Bool} (hr : r = (large8S w c.ids.length || decide (100 < c.inn.length))) :
    Sound Try.prog 6 [.agg (encW w), .agg (encC c)] 0 [] (.at (.bool r)) [] 0 := by
  refine sound_ofL tbl_ok mix Try.func6 rfl rfl (of_decide_eq_true rfl) ?_
  obtain ⟨N, hN⟩ : ∃ x : Int, x = (c.ids.length : Int) := ⟨_, rfl⟩
  rw [← hN] at hr
  obtain ⟨b, hb⟩ : ∃ b, b = large8S w N := ⟨_, rfl⟩
  obtain ⟨b', hb'⟩ : ∃ b, b = decide (100 < c.inn.length) := ⟨_, rfl⟩
  have c1 := large8_ok hb
  rw [← hb, ← hb'] at hr
  unfold encC encW at *
  have l1 : (c.ids.map cellI).length = c.ids.length := by simp
  have l2 : (c.inn.map cellI).length = c.inn.length := by simp
  rw [← l1] at hN
  rw [← l2] at hb'
  have hNA : Ar.std.nat (Ar.std.len (c.ids.map cellI)) = N := by rw [hN]; rfl
  have hbA : Ar.std.lt 100 (Ar.std.nat (Ar.std.len (c.inn.map cellI))) = b' := by rw [hb']; exact decide_eq_decide.2 (by simp [Ar.std]; omega)
  clear hb hb' hN l1 l2
  obtain ⟨ci, cn, cb, cr, cf, cw⟩ := c
  simp only at *
  generalize w.dist.map cellI = ed at *
  generalize w.time.map cellI = et at *
  generalize w.orders.map encO = eo at *
  generalize w.trucks.map encT = ek at *
  generalize w.n = wn at *
  generalize ci.map cellI = ei at *
  generalize cn.map cellI = en at *
  generalize Try.prog = P at *
  generalize hA : Ar.std = A
  cbv
  repeat refine NeedW.mk trivial ?_
  have hN' : A.nat (A.len ei) = N := by subst hA; exact hNA
  have hb' : A.lt 100 (A.nat (A.len en)) = b' := by subst hA; exact hbA
  clear hNA hbA
  rw [← hN'] at c1
  refine call0 c1 rfl rfl ?_
  cbv
  repeat refine NeedW.mk trivial ?_
  clear hN' c1
  split <;> cbv
  · rename_i h
    have h : b = false := by cases b <;> simp_all
    repeat refine NeedW.mk trivial ?_
    refine .mk { t := [(4, .at (.bool r))], m := [], nx := 0 } (le_of hA (mv := []) (τ := []) ?_) (by cbv; refine .mk rfl ?_; trivial)
    cbv; subst hA; simp only [Ar.std] at hb' ⊢; simp [hr, h, hb']
  · rename_i h
    have h : b = true := by cases b <;> simp_all
    repeat refine NeedW.mk trivial ?_
    refine .mk { t := [(4, .at (.bool r))], m := [], nx := 0 } (le_of hA (mv := []) (τ := []) ?_) (by cbv; refine .mk rfl ?_; trivial)
    cbv; simp [hr, h]
theorem same12_ok {a b : Crt} (h1 : LOk a.ids.length) (h2 : LOk a.inn.length) {r : Bool} (hr : r = true ↔ a = b) :
    Sound Try.prog 13 [.agg (encC a), .agg (encC b)] 0 [] (.at (.bool r)) [] 0 := by
  refine sound_ofL tbl_ok mix Try.func13 rfl rfl (of_decide_eq_true rfl) ?_
  obtain ⟨u1, hu1⟩ : ∃ x, x = decide (a.ids = b.ids) := ⟨_, rfl⟩
  obtain ⟨u2, hu2⟩ : ∃ x, x = decide (a.inn = b.inn) := ⟨_, rfl⟩
  have c1 := same9_ok rfl rfl h1 hu1
  have c2 := ints_ok rfl rfl h2 hu2
  obtain ⟨ai, an, ab, ar, af, aw⟩ := a
  obtain ⟨bi, bn, bb, br, bf, bw⟩ := b
  unfold encC
  simp only [Crt.mk.injEq] at *
  have hr : r = (u1 && u2 && decide (ab = bb) && decide (ar = br) && decide (af = bf) && decide (aw = bw)) := by rw [Bool.eq_iff_iff, hr, hu1, hu2]; simp [and_assoc]
  obtain ⟨u3, h3⟩ : ∃ b, b = decide (ab = bb) := ⟨_, rfl⟩
  obtain ⟨u4, h4⟩ : ∃ b, b = decide (ar = br) := ⟨_, rfl⟩
  obtain ⟨u5, h5⟩ : ∃ b, b = decide (af = bf) := ⟨_, rfl⟩
  obtain ⟨u6, h6⟩ : ∃ b, b = decide (aw = bw) := ⟨_, rfl⟩
  rw [← h3, ← h4, ← h5, ← h6] at hr
  have he : ∀ (x y : Int), Ar.std.eq x y = decide (x = y) := fun x y => Bool.eq_iff_iff.2 (by simp [Ar.std])
  rw [← he] at h3 h4 h5 h6
  clear hu1 hu2 he
  generalize ai.map cellI = e1 at *
  generalize an.map cellI = e2 at *
  generalize bi.map cellI = e3 at *
  generalize bn.map cellI = e4 at *
  generalize Try.prog = P at *
  generalize hA : Ar.std = A
  cbv
  repeat refine NeedW.mk trivial ?_
  have g3 : A.eq ab bb = u3 := by subst hA; exact h3.symm
  have g4 : A.eq ar br = u4 := by subst hA; exact h4.symm
  have g5 : A.eq af bf = u5 := by subst hA; exact h5.symm
  have g6 : A.eq aw bw = u6 := by subst hA; exact h6.symm
  have gp : ∀ c, A.pick true c false = c := by subst hA; intro c; rfl
  clear h3 h4 h5 h6
  refine call0 c1 rfl rfl ?_
  cbv
  repeat refine NeedW.mk trivial ?_
  split <;> cbv
  · repeat refine NeedW.mk trivial ?_
    refine call0 c2 rfl rfl ?_
    cbv
    repeat' (first
      | refine NeedW.mk trivial ?_
      | (split <;> cbv))
    all_goals (refine .mk { t := [(4, .at (.bool r))], m := [], nx := 0 } (le_of hA (mv := []) (τ := []) ?_) (by cbv; refine .mk rfl ?_; trivial))
    all_goals cbv
    all_goals (subst hA; simp only [Ar.std] at *; subst hr; simp_all)
  · repeat refine NeedW.mk trivial ?_
    repeat' (first
      | refine NeedW.mk trivial ?_
      | (split <;> cbv))
    all_goals (refine .mk { t := [(4, .at (.bool r))], m := [], nx := 0 } (le_of hA (mv := []) (τ := []) ?_) (by cbv; refine .mk rfl ?_; trivial))
    all_goals cbv
    all_goals (subst hA; simp only [Ar.std] at *; subst hr; simp_all)
end L12
namespace L12
open Go Go.Abs Go.Proofs
set_option maxRecDepth 100000
theorem wA_wok : WOk wA := ⟨by decide, by decide, by decide, by decide, by decide⟩
abbrev i64 (n : Int) : V := .at (.int .i64 n)
abbrev cellsA : List V := [i64 2, .msl 1 1 0 4, .msl 1 2 0 4, .msl 8 3 0 1, .msl 7 4 0 1]
abbrev rowsA : List V := [i64 2, .row 1 [[i64 0], [i64 5], [i64 6], [i64 0]], .row 1 [[i64 0], [i64 0], [i64 0], [i64 0]], .row 8 [[i64 7, i64 0, i64 1, i64 1, i64 1, i64 0, i64 0, i64 0]], .row 7 [[i64 3, i64 1, i64 1, i64 0, i64 0, i64 4, i64 2]]]
abbrev arrsA : Mem := [(1, .arr 2 1 [[i64 0], [i64 5], [i64 6], [i64 0]]), (2, .arr 2 1 [[i64 0], [i64 0], [i64 0], [i64 0]]), (3, .arr 48 8 [[i64 7, i64 0, i64 1, i64 1, i64 1, i64 0, i64 0, i64 0]]), (4, .arr 50 7 [[i64 3, i64 1, i64 1, i64 0, i64 0, i64 4, i64 2]]), (5, .arr 3 1 [[i64 7]])]
theorem makeA (ids : List Int) (hl : ids.length ≤ 1000000) (c : Crt) (e : Int) (h : (c, e) = makeS wA ids) :
    Sound Try.prog 12 [.agg rowsA, .row 1 (ids.map cellI)] 0 [] (.tup [.agg (encC c), i64 e]) [] 0 := make_ok wA_wok hl rfl h rfl rfl
theorem makeA1 : Sound Try.prog 12 [.agg cellsA, .msl 1 5 0 1] 6 ((0, .box 28 cellsA) :: arrsA) (.tup [.agg [.row 1 [[i64 7]], .row 1 [[i64 5]], i64 6, i64 2, i64 4, i64 26], i64 0]) [(0, .box 28 rowsA)] 6 := by
  have h := (makeA [7] (by decide) _ _ wA_make.symm).at (by decide) (by decide) 6 6
  exact Sound.frz (mv := [1, 2, 3, 4, 5]) h (by decide) (by decide) (fun b h => mem_ids h) (by decide) (by decide) (by simp [mvAOk, mvOk, Mem.get, ClE]; trivial) (by simp [mvOk, Mem.get, ClE]; trivial)
theorem awake_ok : Sound Try.prog 5 [] 0 [] (.at (.bool true)) [] 0 := by
  refine sound_ofL tbl_ok mix Try.func5 rfl rfl (of_decide_eq_true rfl) ?_
  have c1 := makeA1
  have c2 := makeA [] (by decide) _ _ wA_none.symm
  have c3 := makeA [7, 7] (by decide) _ _ wA_twice.symm
  have c4 := makeA [8] (by decide) _ _ wA_name.symm
  have c5 := @same12_ok ⟨[7], [5], 6, 2, 4, 26⟩ ⟨[7], [5], 6, 2, 4, 26⟩ (by decide) (by decide) true (by simp)
  have c6 := @holds_ok wA wA_wok ⟨[7], [5], 6, 2, 4, 26⟩ (by decide) (by decide) _ wA_holds.symm
  have c7 := @holds_ok wA wA_wok ⟨[], [], 0, 0, 0, 0⟩ (by decide) (by decide) _ wA_holds0.symm
  have c8 := fun b (hb : b = 27) => @holds_ok wA wA_wok ⟨[7], [5], 6, 2, 4, b⟩ (by simp) (by simp) false (by rw [hb]; exact wA_not.symm)
  generalize Try.prog = P at *
  generalize hA : Ar.std = A
  cbv
  repeat refine NeedW.mk trivial ?_
  refine NeedW.mk ⟨.mk _, trivial⟩ ?_
  repeat refine NeedW.mk trivial ?_
  refine callR hA 19 [(0, 13), (1, 1), (2, 3), (3, 7), (4, 10), (5, 17)] c1 (by cbv; simp; decide) (by cbv; subst hA; rfl) (by cbv; subst hA; simp [Ar.std]; decide) ?_
  cbv
  repeat refine NeedW.mk trivial ?_
  refine call0 (Sound.nil1 c2) rfl rfl ?_
  cbv
  repeat refine NeedW.mk trivial ?_
  refine callRM hA 39 (mv := [37]) [] c3 (by cbv) (by cbv; subst hA; simp [Ar.std]; try decide) (by cbv; subst hA; rfl) rfl ?_
  cbv
  repeat refine NeedW.mk trivial ?_
  refine callRM hA 50 (mv := [48]) [] c4 (by cbv) (by cbv; subst hA; simp [Ar.std]; try decide) (by cbv; subst hA; rfl) rfl ?_
  cbv
  repeat refine NeedW.mk trivial ?_
  refine NeedW.mk (by subst hA; exact inr64 (by decide)) ?_
  repeat refine NeedW.mk trivial ?_
  refine callRM hA 69 (mv := [68, 70]) [] c5 (by cbv) (by cbv; subst hA; simp [Ar.std]; try decide) (by cbv; subst hA; rfl) rfl ?_
  cbv
  repeat refine NeedW.mk trivial ?_
  split
  rotate_left
  · rename_i h
    exact absurd (by subst hA; rfl) h
  cbv
  repeat refine NeedW.mk trivial ?_
  split
  rotate_left
  · rename_i h
    exact absurd (by subst hA; rfl) h
  cbv
  repeat refine NeedW.mk trivial ?_
  split
  rotate_left
  · rename_i h
    exact absurd (by subst hA; rfl) h
  cbv
  repeat refine NeedW.mk trivial ?_
  split
  rotate_left
  · rename_i h
    exact absurd (by subst hA; rfl) h
  cbv
  repeat refine NeedW.mk trivial ?_
  split
  rotate_left
  · rename_i h
    exact absurd (by subst hA; rfl) h
  cbv
  repeat refine NeedW.mk trivial ?_
  refine call0 c6 rfl rfl ?_
  cbv
  repeat refine NeedW.mk trivial ?_
  split
  rotate_left
  · rename_i h
    exact absurd (by subst hA; rfl) h
  cbv
  repeat refine NeedW.mk trivial ?_
  refine call0 c7 rfl rfl ?_
  cbv
  repeat refine NeedW.mk trivial ?_
  split
  rotate_left
  · rename_i h
    exact absurd (by subst hA; rfl) h
  cbv
  repeat refine NeedW.mk trivial ?_
  refine call0 (c8 (A.add 26 1) (by subst hA; rfl)) rfl rfl ?_
  cbv
  repeat refine NeedW.mk trivial ?_
  refine .mk { t := [(0, .at (.bool true))], m := [], nx := 0 } (le_of hA (mv := []) (τ := []) ?_) (by cbv; refine .mk rfl ?_; trivial)
  cbv; subst hA; simp [Ar.std]
end L12
