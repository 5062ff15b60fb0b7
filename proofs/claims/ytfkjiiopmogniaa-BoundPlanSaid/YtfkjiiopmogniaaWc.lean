/- Contracts of the functions of layer 12, each walked once over the abstract machine. -/
import Derived.Test.YtfkjiiopmogniaaWb
import Derived.Test.YtfkjiiopmogniaaAb5
namespace L12
open Go Go.Abs Go.Proofs
set_option maxRecDepth 100000
theorem compact_ok {l : List Int} {es es' : List (List V)} (hes : es = l.map cellI) (hlen : LOk l.length) {n k : Nat} (hn : n = l.length) (hk : k = (compI l).length) (hes' : es' = compE l) :
    Sound Try.prog 26 [.msl 1 0 0 n] 1 [(0, .arr 3 1 es)] (.msl 1 0 0 k) [(0, .arr 3 1 es')] 1 := by
  refine sound_of tbl_ok mix Try.func26 rfl rfl (of_decide_eq_true rfl) ?_
  have hc := cl_int hes
  have hcE : ClE es' := by
    rw [hes', compE]
    split
    · rw [← hes]; exact hc
    · intro e he x hx
      rcases List.mem_append.1 he with he | he
      · obtain ⟨y, _, rfl⟩ := List.mem_map.1 he; simp [cellI] at hx; subst hx; rfl
      · rw [List.eq_of_mem_replicate he] at hx; simp at hx; subst hx; rfl
  have hle := @compI_le l
  obtain ⟨N, hN⟩ : ∃ N : Int, N = n := ⟨_, rfl⟩
  have hN0 : 0 ≤ N ∧ N ≤ 140737488355328 ∧ N.toNat = l.length ∧ N.toNat = n := by have : l.length ≤ 140737488355328 := hlen; omega
  generalize Try.prog = P
  generalize hA : Ar.std = A
  cbv
  repeat refine NeedW.mk trivial ?_
  have hNA : A.nat n = N := by subst hA; simp [Ar.std, hN]
  clear hN
  split <;> cbv
  · rename_i h2
    have h2 : n < 2 := by subst hA; simp [Ar.std] at h2; omega
    repeat refine NeedW.mk trivial ?_
    have hl : compI l = l := by
      match l, hn with
      | [], _ => rfl
      | [x], _ => rfl
      | _ :: _ :: _, hn => simp at hn; omega
    have h1 : n = k := by rw [hn, hk, hl]
    have h2 : es = es' := by rw [hes, hes', compE, hl, if_pos rfl]
    obtain rfl := h1
    obtain rfl := h2
    refine .mk rfl ?_
    simp
    exact hc
  · rename_i h2
    have h2 : 2 ≤ n := by subst hA; simp [Ar.std] at h2; omega
    repeat refine NeedW.mk trivial ?_
    refine .mk (fun k s => ∃ (z p : Int), 1 ≤ z ∧ k + z.toNat = n ∧ l.take z.toNat ++ compGo p (l.drop z.toNat) = compI l ∧ l[z.toNat - 1]? = some p ∧
      s = { t := [(3, .at (.int .i64 z)), (0, .msl 1 0 0 n)], m := [(0, .arr 3 1 es)], nx := 6 }) (n - 1) _ (le_of hA (mv := []) (τ := [(0, some 0)]) ?_) ⟨1, l.headD 0, by omega, by simp; omega, ?_, ?_, rfl⟩ ?_
    · cbv; simp; exact hc
    · match l, hn with
      | x :: r, _ => simp [compI]
      | [], hn => simp at hn; omega
    · match l, hn with
      | x :: r, _ => simp
      | [], hn => simp at hn; omega
    rintro k1 s ⟨z, p, h0, hk1, hspec, hp, rfl⟩
    cbv
    repeat refine NeedW.mk trivial ?_
    split <;> cbv
    · rename_i hlt
      have hlt : z.toNat < n := by subst hA; simp [Ar.std] at hlt; omega
      repeat refine NeedW.mk trivial ?_
      obtain ⟨x, hx⟩ : ∃ x, l[z.toNat]? = some x := ⟨l[z.toNat]'(by omega), List.getElem?_eq_getElem (by omega)⟩
      have hex : es[z.toNat]? = some [.at (.int .i64 x)] := by rw [hes]; simp [hx, cellI]
      have hep : es[z.toNat - 1]? = some [.at (.int .i64 p)] := by rw [hes]; simp [hp, cellI]
      refine .mk rfl ?_
      cbv
      repeat refine NeedW.mk trivial ?_
      have hz1 : (0 : Int) ≤ z := by omega
      refine NeedW.mk ⟨hz1, nat_lt hlt⟩ ?_
      repeat refine NeedW.mk trivial ?_
      refine .mk _ (by subst hA; simpa [Ar.std] using hex) ?_
      cbv
      repeat refine NeedW.mk trivial ?_
      refine NeedW.mk (by subst hA; refine inr64 ?_; simp only [Ar.std]; omega) ?_
      repeat refine NeedW.mk trivial ?_
      have hz2 : (0 : Int) ≤ A.sub z 1 := by subst hA; simp only [Ar.std]; omega
      have hz3 : (A.sub z 1).toNat < n := by subst hA; simp only [Ar.std]; omega
      refine NeedW.mk ⟨hz2, nat_lt hz3⟩ ?_
      repeat refine NeedW.mk trivial ?_
      refine .mk _ (by subst hA; rw [← hep]; simp only [Ar.std]; congr 1; omega) ?_
      cbv
      repeat refine NeedW.mk trivial ?_
      split <;> cbv
      · rename_i he
        have he : x = p := by subst hA; simpa [Ar.std] using he
        repeat refine NeedW.mk trivial ?_
        refine NeedW.mk (by subst hA; simp [Ar.std]; omega) ?_
        repeat refine NeedW.mk trivial ?_
        obtain ⟨z0, hz0⟩ : ∃ z0, z0 = z.toNat := ⟨_, rfl⟩
        obtain ⟨d, hd⟩ : ∃ d, d = n - z0 := ⟨_, rfl⟩
        refine .mk (fun q s => ∃ (kk j p' : Int) (out : List Int) (cur : List (List V)), z ≤ kk ∧ kk + 1 ≤ j ∧ q + j.toNat = n ∧ out.length = kk.toNat ∧ compI l = out ++ compGo p' (l.drop j.toNat) ∧ l[j.toNat - 1]? = some p' ∧
          cur = out.map cellI ++ (l.drop kk.toNat).map cellI ∧
          s = { t := [(5, .at (.int .i64 (j - z))), (4, .msl 1 0 z0 d), (3, .at (.int .i64 kk)), (0, .msl 1 0 0 n)], m := [(0, .arr 3 1 cur)], nx := 6 }) (n - (z0 + 1)) _ (le_of hA (mv := []) (τ := [(0, some 0)]) ?_) ⟨z, z + 1, p, l.take z.toNat, es, by omega, by omega, by omega, by simp; omega, ?_, ?_, ?_, rfl⟩ ?_
        · obtain ⟨one, h1⟩ : ∃ one : Int, one = z + 1 - z := ⟨_, rfl⟩
          rw [← h1]
          have h1 : one = 1 := by omega
          cbv; subst hA; simp [Ar.std, h1, hz0, hd]; exact hc
        · rw [← hspec, show (z + 1).toNat = z.toNat + 1 by omega, List.drop_eq_getElem_cons (show z.toNat < l.length by omega)]
          have : l[z.toNat]'(by omega) = x := by
            rw [List.getElem?_eq_getElem (by omega)] at hx
            simpa using hx
          simp [compGo, this, he]
        · rw [show (z + 1).toNat - 1 = z.toNat by omega, hx, he]
        · rw [hes, ← List.map_append, List.take_append_drop]
        rintro q s ⟨kk, j, p', out, cur, g0, g1, g2, g3, g4, g5, g6, rfl⟩
        have hcur : ClE cur := by
          rw [g6]
          intro e he x hx
          rcases List.mem_append.1 he with he | he <;> (obtain ⟨y, _, rfl⟩ := List.mem_map.1 he; simp [cellI] at hx; subst hx; rfl)
        obtain ⟨j2, hj2⟩ : ∃ j2, j2 = j - z := ⟨_, rfl⟩
        rw [← hj2]
        cbv
        repeat refine NeedW.mk trivial ?_
        split <;> cbv
        · rename_i hlt2
          have hlt2 : j.toNat < n := by subst hA; simp [Ar.std] at hlt2; omega
          repeat refine NeedW.mk trivial ?_
          obtain ⟨y, hy⟩ : ∃ y, l[j.toNat]? = some y := ⟨l[j.toNat]'(by omega), List.getElem?_eq_getElem (by omega)⟩
          have hcl : (out.map cellI).length = kk.toNat := by simp [g3]
          have hey : cur[j.toNat]? = some [.at (.int .i64 y)] := by
            rw [g6, List.getElem?_append_right (by omega), hcl]
            simp [show kk.toNat + (j.toNat - kk.toNat) = j.toNat by omega, hy, cellI]
          have hep' : cur[j.toNat - 1]? = some [.at (.int .i64 p')] := by
            rw [g6, List.getElem?_append_right (by omega), hcl]
            simp [show kk.toNat + (j.toNat - 1 - kk.toNat) = j.toNat - 1 by omega, g5, cellI]
          have hclen : cur.length = n := by rw [g6]; simp; omega
          refine .mk rfl ?_
          cbv
          repeat refine NeedW.mk trivial ?_
          have q1 : (0 : Int) ≤ j2 := by omega
          have q2 : j2.toNat < d := by omega
          refine NeedW.mk ⟨q1, nat_lt q2⟩ ?_
          repeat refine NeedW.mk trivial ?_
          refine .mk _ (by subst hA; rw [← hey]; simp only [Ar.std]; congr 1; omega) ?_
          cbv
          repeat refine NeedW.mk trivial ?_
          refine NeedW.mk (by subst hA; refine inr64 ?_; simp only [Ar.std]; omega) ?_
          repeat refine NeedW.mk trivial ?_
          have q3 : (0 : Int) ≤ A.sub j2 1 := by subst hA; simp only [Ar.std]; omega
          have q4 : (A.sub j2 1).toNat < d := by subst hA; simp only [Ar.std]; omega
          refine NeedW.mk ⟨q3, nat_lt q4⟩ ?_
          repeat refine NeedW.mk trivial ?_
          refine .mk _ (by subst hA; rw [← hep']; simp only [Ar.std]; congr 1; omega) ?_
          cbv
          repeat refine NeedW.mk trivial ?_
          split <;> cbv
          · rename_i hne
            have hne : y ≠ p' := by subst hA; simpa [Ar.std] using hne
            repeat refine NeedW.mk trivial ?_
            refine NeedW.mk ⟨q1, nat_lt q2⟩ ?_
            repeat refine NeedW.mk trivial ?_
            refine .mk _ (by subst hA; rw [← hey]; simp only [Ar.std]; congr 1; omega) ?_
            cbv
            repeat refine NeedW.mk trivial ?_
            have q5 : (0 : Int) ≤ kk := by omega
            have q6 : kk.toNat < n := by omega
            refine NeedW.mk ⟨q5, nat_lt q6⟩ ?_
            repeat refine NeedW.mk trivial ?_
            obtain ⟨y0, hy0⟩ : ∃ y0, l[kk.toNat]? = some y0 := ⟨l[kk.toNat]'(by omega), List.getElem?_eq_getElem (by omega)⟩
            have hel0 : cur[kk.toNat]? = some [.at (.int .i64 y0)] := by
              rw [g6, List.getElem?_append_right (by omega), hcl]
              simp [hy0, cellI]
            refine .mk _ (by subst hA; rw [← hel0]; simp only [Ar.std]; congr 1; omega) ?_
            cbv
            repeat refine NeedW.mk trivial ?_
            refine NeedW.mk (by subst hA; refine inr64 ?_; simp only [Ar.std]; omega) ?_
            repeat refine NeedW.mk trivial ?_
            refine NeedW.mk (by subst hA; refine inr64 ?_; simp only [Ar.std]; omega) ?_
            repeat refine NeedW.mk trivial ?_
            obtain ⟨j3, hj3⟩ : ∃ j3, j3 = j + 1 - z := ⟨_, rfl⟩
            obtain ⟨k3, hk3⟩ : ∃ k3, k3 = kk + 1 := ⟨_, rfl⟩
            obtain ⟨cur', hcur'⟩ : ∃ cur', cur' = cur.set kk.toNat [.at (.int .i64 y)] := ⟨_, rfl⟩
            have hsp : cur' = (out ++ [y]).map cellI ++ (l.drop k3.toNat).map cellI := by
              have hd0 : l.drop kk.toNat = l[kk.toNat]'(by omega) :: l.drop (kk.toNat + 1) := List.drop_eq_getElem_cons (by omega)
              rw [hcur', g6, List.set_append_right _ _ (by omega), hcl, show k3.toNat = kk.toNat + 1 by omega, Nat.sub_self, hd0, List.map_cons, List.set_cons_zero]
              simp only [List.map_append, List.map_cons, List.map_nil, List.append_assoc, List.cons_append, List.nil_append]
              rfl
            have hclc : ClE cur' := by
              rw [hsp, ← List.map_append]
              exact cl_int rfl
            refine ⟨q - 1, _, by omega, le_of hA (mv := []) (τ := [(0, some 0)]) ?_, k3, j + 1, y, out ++ [y], cur', by omega, by omega, by omega, by simp [g3]; omega, ?_, ?_, hsp, rfl⟩
            · rw [← hj3]
              have : j3 = j2 + 1 := by omega
              cbv; subst hA; simp [Ar.std, this, hk3, hcur']; rw [← hcur']; exact hclc
            · rw [g4, show (j + 1).toNat = j.toNat + 1 by omega, List.drop_eq_getElem_cons (show j.toNat < l.length by omega)]
              have : l[j.toNat]'(by omega) = y := by
                rw [List.getElem?_eq_getElem (by omega)] at hy
                simpa using hy
              simp [compGo, this, hne]
            · rw [show (j + 1).toNat - 1 = j.toNat by omega, hy]
          · rename_i hne
            have hne : y = p' := by subst hA; simpa [Ar.std] using hne
            repeat refine NeedW.mk trivial ?_
            refine NeedW.mk (by subst hA; refine inr64 ?_; simp only [Ar.std]; omega) ?_
            repeat refine NeedW.mk trivial ?_
            obtain ⟨j3, hj3⟩ : ∃ j3, j3 = j + 1 - z := ⟨_, rfl⟩
            refine ⟨q - 1, _, by omega, le_of hA (mv := []) (τ := [(0, some 0)]) ?_, kk, j + 1, p', out, cur, by omega, by omega, by omega, g3, ?_, ?_, g6, rfl⟩
            · rw [← hj3]
              have : j3 = j2 + 1 := by omega
              cbv; subst hA; simp [Ar.std, this]; exact hcur
            · rw [g4, show (j + 1).toNat = j.toNat + 1 by omega, List.drop_eq_getElem_cons (show j.toNat < l.length by omega)]
              have : l[j.toNat]'(by omega) = y := by
                rw [List.getElem?_eq_getElem (by omega)] at hy
                simpa using hy
              simp [compGo, this, hne]
            · rw [show (j + 1).toNat - 1 = j.toNat by omega, hy, hne]
        · rename_i hge2
          have hge2 : n ≤ j.toNat := by subst hA; simp [Ar.std] at hge2; omega
          have ho : compI l = out := by rw [g4, List.drop_eq_nil_of_le (by omega)]; simp [compGo]
          have hkk : kk.toNat = k := by rw [hk, ho, g3]
          have hclen : cur.length = n := by rw [g6]; simp; omega
          repeat refine NeedW.mk trivial ?_
          refine NeedW.mk (by subst hA; simp only [Ar.std]; omega) ?_
          refine NeedW.mk (by subst hA; simp only [Ar.std]; omega) ?_
          repeat refine NeedW.mk trivial ?_
          refine NeedW.mk (by subst hA; simp only [Ar.std]; omega) ?_
          repeat refine NeedW.mk trivial ?_
          have hE : es' = cur.take kk.toNat ++ List.replicate (n - kk.toNat) [.junk] := by
            rw [hes', compE, if_neg (by omega), g6, List.take_append_of_le_length (by simp [g3]), List.take_of_length_le (by simp [g3]), ho, g3, hn]
          refine .mk ?_ ?_
          · subst hA
            simp [Ar.std, hkk]
          · refine ⟨⟨?_, trivial⟩, hcE, trivial⟩
            subst hA
            rw [hE]
            simp [Ar.std, hclen, hkk]
            omega
      · rename_i he
        have he : ¬ x = p := by subst hA; simpa [Ar.std] using he
        repeat refine NeedW.mk trivial ?_
        refine NeedW.mk (by subst hA; refine inr64 ?_; simp only [Ar.std]; omega) ?_
        repeat refine NeedW.mk trivial ?_
        obtain ⟨z', hz⟩ : ∃ z', z' = z + 1 := ⟨_, rfl⟩
        refine ⟨k1 - 1, _, by omega, le_of hA (mv := []) (τ := [(0, some 0)]) ?_, z', x, by omega, by omega, ?_, ?_, rfl⟩
        · cbv; subst hA; simp [Ar.std, hz]; exact hc
        · rw [← hspec, hz, show (z + 1).toNat = z.toNat + 1 by omega, List.drop_eq_getElem_cons (show z.toNat < l.length by omega), List.take_add_one, hx]
          have : l[z.toNat]'(by omega) = x := by
            rw [List.getElem?_eq_getElem (by omega)] at hx
            simpa using hx
          simp [compGo, this, he]
        · rw [hz, show (z + 1).toNat - 1 = z.toNat by omega, hx]
    · rename_i hge
      have hge : n ≤ z.toNat := by subst hA; simp [Ar.std] at hge; omega
      repeat refine NeedW.mk trivial ?_
      have hl : compI l = l := by
        rw [← hspec, List.take_of_length_le (by omega), List.drop_eq_nil_of_le (by omega)]
        simp [compGo]
      have h1 : n = k := by rw [hn, hk, hl]
      have h2 : es = es' := by rw [hes, hes', compE, hl, if_pos rfl]
      obtain rfl := h1
      obtain rfl := h2
      refine .mk rfl ?_
      simp
      exact hc
end L12
namespace L12
open Go Go.Abs Go.Proofs
set_option maxRecDepth 100000
theorem loadSum_ok {l : List Ord} {es : List (List V)} (hes : es = l.map encO) (hlen : l.length * 8 ≤ 140737488355328) {r : Int × Int × Int} (hr : r = loadSumS l) :
    Sound Try.prog 69 [.row 8 es] 0 [] (.tup [.at (.int .i64 r.1), .at (.int .i64 r.2.1), .at (.int .i64 r.2.2)]) [] 0 := by
  refine sound_of tbl_ok mix Try.func69 rfl rfl (of_decide_eq_true rfl) ?_
  have hl : es.length = l.length := by subst hes; simp
  have hget : ∀ (z : Int) o, l[Int.toNat z]? = some o → es[Int.toNat z]? = some (encO o) := fun z o h => by subst hes; simp [h]
  have hsum := @sum_ok
  generalize Try.prog = P at hsum ⊢
  generalize hA : Ar.std = A
  cbv
  repeat refine NeedW.mk trivial ?_
  refine .mk (fun k s => ∃ (z : Int) (n : Nat) (ws vs : List (List V)), 0 ≤ z ∧ k + z.toNat = l.length ∧ n = z.toNat ∧ ws = (l.take z.toNat).map (fun o => cellI o.weight) ∧ vs = (l.take z.toNat).map (fun o => cellI o.volume) ∧
    s = { t := [(14, .at (.int .i64 z)), (13, .at (.int .i64 (A.nat (A.len es)))), (12, .row 8 es), (5, .msl 1 20 0 n), (6, .msl 1 21 0 n)], m := [(20, .arr 2 1 ws), (21, .arr 2 1 vs)], nx := 22 }) l.length _ (le_of hA (mv := []) (τ := [(20, none), (21, none)]) ?_) ⟨0, 0, [], [], by simp, by simp, by simp, by simp, by simp, rfl⟩ ?_
  · cbv <;> simp
  rintro k s ⟨z, n, ws, vs, h0, hk, hn, hws, hvs, rfl⟩
  have cl : ∀ (f : Ord → Int) (q : List Ord), ClE (q.map fun o => cellI (f o)) := fun f q e he x hx => by
    obtain ⟨y, _, rfl⟩ := List.mem_map.1 he
    simp [cellI] at hx
    subst hx
    rfl
  have cw : ClE ws := hws ▸ cl _ _
  have cv : ClE vs := hvs ▸ cl _ _
  cbv
  repeat refine NeedW.mk trivial ?_
  split <;> cbv
  · rename_i hlt
    replace hlt := lt_row hA h0 hlt
    obtain ⟨o, ho⟩ := get_lt (l := l) (hl ▸ hlt)
    obtain ⟨z', hz⟩ : ∃ z', z' = z + 1 := ⟨_, rfl⟩
    have hge := hget z o ho
    obtain ⟨a0, a1, a2, a3, a4, a5, a6, a7⟩ := o
    unfold encO at hge
    repeat refine NeedW.mk trivial ?_
    refine .mk _ h0 hge ?_
    cbv
    repeat refine NeedW.mk trivial ?_
    refine .mk rfl ?_
    cbv
    repeat refine NeedW.mk trivial ?_
    have hlw : ws.length = n := by rw [hws]; simp; omega
    have hlv : vs.length = n := by rw [hvs]; simp; omega
    refine NeedW.mk (by subst hA; simp [Ar.std, hlw, V.one, Value.oneCell']; omega) ?_
    repeat refine NeedW.mk trivial ?_
    refine NeedW.mk (by subst hA; simp [Ar.std, hlv, V.one, Value.oneCell']; omega) ?_
    repeat refine NeedW.mk trivial ?_
    have hlen' : LOk l.length := by show l.length ≤ _; omega
    refine NeedW.mk (inc_ok hA h0 hlt (hl ▸ hlen')) ?_
    repeat refine NeedW.mk trivial ?_
    obtain ⟨n', hn'⟩ : ∃ n', n' = n + 1 := ⟨_, rfl⟩
    obtain ⟨ws', hws'⟩ : ∃ ws', ws' = ws ++ [cellI a3] := ⟨_, rfl⟩
    obtain ⟨vs', hvs'⟩ : ∃ vs', vs' = vs ++ [cellI a4] := ⟨_, rfl⟩
    have e1 : ws' = (l.take z'.toNat).map (fun o => cellI o.weight) := by rw [hws', hws, hz, show (z + 1).toNat = z.toNat + 1 by omega, List.take_add_one, ho]; simp
    have e2 : vs' = (l.take z'.toNat).map (fun o => cellI o.volume) := by rw [hvs', hvs, hz, show (z + 1).toNat = z.toNat + 1 by omega, List.take_add_one, ho]; simp
    have cw' : ClE ws' := e1 ▸ cl _ _
    have cv' : ClE vs' := e2 ▸ cl _ _
    unfold cellI at hws' hvs'
    refine ⟨k - 1, _, by omega, le_of hA (mv := []) (τ := [(20, some 33), (21, some 40)]) ?_, z', n', ws', vs', by omega, by omega, by omega, e1, e2, rfl⟩
    cbv; subst hA; simp [Ar.std, hz, hlw, hlv, hn', ← hws', ← hvs']
    exact ⟨cw', cv'⟩
  · rename_i hge
    replace hge := ge_row hA h0 hge
    have e1 : ws = (l.map Ord.weight).map cellI := by rw [hws, List.take_of_length_le (by omega)]; simp
    have e2 : vs = (l.map Ord.volume).map cellI := by rw [hvs, List.take_of_length_le (by omega)]; simp
    have hlw : ws.length = n := by rw [hws]; simp; omega
    have hlv : vs.length = n := by rw [hvs]; simp; omega
    obtain ⟨s1, s1', h1⟩ : ∃ s s', (s, s') = sumS (l.map Ord.weight) := ⟨_, _, rfl⟩
    obtain ⟨s2, s2', h2⟩ : ∃ s s', (s, s') = sumS (l.map Ord.volume) := ⟨_, _, rfl⟩
    have c1 := hsum (by simp; omega) h1
    have c2 := hsum (by simp; omega) h2
    unfold loadSumS at hr
    rw [← h1, ← h2] at hr
    change Sound P _ [.row 1 ((l.map Ord.weight).map cellI)] _ _ _ _ _ at c1
    change Sound P _ [.row 1 ((l.map Ord.volume).map cellI)] _ _ _ _ _ at c2
    rw [← e1] at c1
    rw [← e2] at c2
    clear e1 e2 hws hvs h1 h2
    repeat refine NeedW.mk trivial ?_
    refine callV hA [20] c1 (by cbv; subst hA; simp [Ar.std, hlw]; exact cw) (by cbv; subst hA; simp [Ar.std, ← hlw]) rfl rfl ?_
    cbv
    repeat refine NeedW.mk trivial ?_
    split <;> cbv
    · rename_i hne
      have hne : s1' ≠ 0 := by subst hA; simpa [Ar.std] using hne
      repeat refine NeedW.mk trivial ?_
      refine .mk ?_ trivial
      simp [hr, hne]
    · rename_i hne
      have hne : s1' = 0 := by subst hA; simpa [Ar.std] using hne
      repeat refine NeedW.mk trivial ?_
      refine callV hA [21] c2 (by cbv; subst hA; simp [Ar.std, hlv]; exact cv) (by cbv; subst hA; simp [Ar.std, ← hlv]) rfl rfl ?_
      cbv
      repeat refine NeedW.mk trivial ?_
      split <;> cbv
      · rename_i hne2
        have hne2 : s2' ≠ 0 := by subst hA; simpa [Ar.std] using hne2
        repeat refine NeedW.mk trivial ?_
        refine .mk ?_ trivial
        simp [hr, hne, hne2]
      · rename_i hne2
        have hne2 : s2' = 0 := by subst hA; simpa [Ar.std] using hne2
        repeat refine NeedW.mk trivial ?_
        refine .mk ?_ trivial
        simp [hr, hne, hne2]
theorem carries_ok {t : Trk} {l : List Ord} {es : List (List V)} (hes : es = l.map encO) (hlen : l.length * 8 ≤ 140737488355328) {r : Int} (hr : r = carriesS t l) :
    Sound Try.prog 41 [.agg (encT t), .row 8 es] 0 [] (.at (.int .i64 r)) [] 0 := by
  refine sound_of tbl_ok mix Try.func41 rfl rfl (of_decide_eq_true rfl) ?_
  obtain ⟨q, hq⟩ : ∃ q, q = loadSumS l := ⟨_, rfl⟩
  have h1 := loadSum_ok hes hlen hq
  unfold carriesS at hr
  rw [← hq] at hr
  obtain ⟨q1, q2, q3⟩ := q
  obtain ⟨a0, a1, a2, a3, a4, a5, a6⟩ := t
  unfold encT
  simp only at hr h1 ⊢
  clear hq
  generalize Try.prog = P at h1 ⊢
  generalize hA : Ar.std = A
  cbv
  repeat refine NeedW.mk trivial ?_
  refine call0 h1 rfl rfl ?_
  cbv
  repeat' (first
    | refine NeedW.mk trivial ?_
    | (refine RetE.mk ?_ trivial; rw [hr]; clear hr; subst hA; simp_all [Ar.std]; try omega; done)
    | (split <;> cbv))
theorem walk_ok {w : Wld} (hw : WOk w) (h0 : worldS w = 0) {p : Plc} (hp : IOk p.node) {to : Int} (hb : 0 ≤ p.time ∧ p.time ≤ 1000000000000 ∧ 0 ≤ p.dist ∧ p.dist ≤ 1000000000000) {n : Nat} {es : List (List V)} (hc : ClE es) {q : Plc} (hq : q = walkS w p to) :
    Sound Try.prog 43 [.bptr 0 0, .agg [.at (.int .i64 w.n), .row 1 (w.dist.map cellI), .row 1 (w.time.map cellI)], .at (.int .i64 to)] 2
      [(0, .box 90 [.at (.int .i64 p.node), .at (.int .i64 p.time), .at (.int .i64 p.dist), .msl 4 1 0 n]), (1, .arr 123 4 es)] (.tup [])
      [(0, .box 90 [.at (.int .i64 q.node), .at (.int .i64 q.time), .at (.int .i64 q.dist), .msl 4 1 0 n]), (1, .arr 123 4 es)] 2 := by
  refine sound_of tbl_ok mix Try.func43 rfl rfl (of_decide_eq_true rfl) ?_
  obtain ⟨d, t, e, hde⟩ : ∃ d t e, (d, t, e) = legS w.n w.dist w.time p.node to := ⟨_, _, _, rfl⟩
  have hleg := leg_ok hw.d hw.t hde
  unfold walkS at hq
  rw [← hde] at hq
  have hdb := legS_bound h0 hde
  generalize Try.prog = P at hleg ⊢
  generalize w.dist.map cellI = ed at hleg ⊢
  generalize w.time.map cellI = et at hleg ⊢
  obtain ⟨p0, p1, p2⟩ := p
  obtain ⟨q0, q1, q2⟩ := q
  simp only [Plc.mk.injEq] at hq
  obtain ⟨rfl, hq1, hq2⟩ := hq
  simp only at hleg hb ⊢
  generalize w.n = wn at hleg ⊢
  generalize hA : Ar.std = A
  cbv
  repeat refine NeedW.mk trivial ?_
  refine .mk rfl ?_
  cbv
  repeat refine NeedW.mk trivial ?_
  refine call0 hleg rfl rfl ?_
  cbv
  repeat refine NeedW.mk trivial ?_
  refine .mk rfl ?_
  cbv
  repeat refine NeedW.mk trivial ?_
  refine NeedW.mk (by subst hA; refine inr64 ?_; simp only [Ar.std]; omega) ?_
  repeat refine NeedW.mk trivial ?_
  refine NeedW.mk (by subst hA; refine inr64 ?_; simp only [Ar.std]; omega) ?_
  repeat refine NeedW.mk trivial ?_
  refine .mk rfl ?_
  subst hA
  simp [Ar.std, hq1, hq2]
  exact hc
theorem visit_ok {w : Wld} (hw : WOk w) (h0 : worldS w = 0) {p : Plc} (hp : IOk p.node) {o : Ord} (hon : IOk o.node) (hb : 0 ≤ p.time ∧ p.time ≤ 100000000000 ∧ 0 ≤ p.dist ∧ p.dist ≤ 1000000000000) (ho : o.lo ≤ 1000000 ∧ 0 ≤ o.service ∧ o.service ≤ 10000)
    {es es' : List (List V)} {n n' : Nat} (hn : es.length = n) (hnb : n ≤ 1000) (hc : ClE es) {q : Plc} (hq : q = visitP w p o) (hes' : es' = es ++ [encV (visitV w p o)]) (hn' : n' = n + 1) {r : Bool} (hr : r = visitOk w p o) :
    Sound Try.prog 42 [.bptr 0 0, .agg [.at (.int .i64 w.n), .row 1 (w.dist.map cellI), .row 1 (w.time.map cellI)], .agg (encO o)] 2
      [(0, .box 90 [.at (.int .i64 p.node), .at (.int .i64 p.time), .at (.int .i64 p.dist), .msl 4 1 0 n]), (1, .arr 123 4 es)] (.at (.bool r))
      [(0, .box 90 [.at (.int .i64 q.node), .at (.int .i64 q.time), .at (.int .i64 q.dist), .msl 4 2 0 n']), (2, .arr 123 4 es')] 3 := by
  refine sound_ofL tbl_ok mix Try.func42 rfl rfl (of_decide_eq_true rfl) ?_
  obtain ⟨q1, hq1⟩ : ∃ q1, q1 = walkS w p o.node := ⟨_, rfl⟩
  have hwk := fun n => walk_ok hw h0 hp (to := o.node) (by omega) (n := n) hc hq1
  have hwb := walk_bound h0 hp hq1 hb
  have hnode : q1.node = o.node := by rw [hq1]; rfl
  unfold visitOk startS at hr
  unfold visitP startS at hq
  unfold visitV startS encV at hes'
  rw [← hq1] at hr hq hes'
  obtain ⟨a0, a1, a2, a3, a4, a5, a6, a7⟩ := o
  unfold encO
  simp only at *
  generalize Try.prog = P at *
  generalize w.dist.map cellI = ed at *
  generalize w.time.map cellI = et at *
  generalize w.n = wn at *
  obtain ⟨p0, p1, p2⟩ := p
  obtain ⟨r0, r1, r2⟩ := q
  obtain ⟨s0, s1, s2⟩ := q1
  simp only at *
  simp only [Plc.mk.injEq] at hq
  obtain ⟨rfl, hq2, rfl⟩ := hq
  clear hq1 h0 hw
  generalize hA : Ar.std = A
  cbv
  repeat refine NeedW.mk trivial ?_
  refine .mk rfl ?_
  cbv
  repeat refine NeedW.mk trivial ?_
  refine callU hA (hwk n) (by cbv; simp; exact hc) rfl ?_
  cbv
  repeat refine NeedW.mk trivial ?_
  refine .mk rfl ?_
  cbv
  repeat refine NeedW.mk trivial ?_
  obtain ⟨m, hm⟩ : ∃ m, m = max s1 a5 := ⟨_, rfl⟩
  have hmA : A.max s1 a5 = m := by subst hA; simp only [Ar.std]; omega
  rw [← hm] at hr hq2 hes'
  refine .mk rfl ?_
  cbv
  repeat refine NeedW.mk trivial ?_
  refine NeedW.mk (by subst hA; refine inr64 ?_; simp only [Ar.std] at hmA ⊢; omega) ?_
  repeat refine NeedW.mk trivial ?_
  refine NeedW.mk (by subst hA; simp [Ar.std, hn, V.one, Value.oneCell']; omega) ?_
  repeat refine NeedW.mk trivial ?_
  refine NeedW.mk (by subst hA; refine inr64 ?_; simp only [Ar.std] at hmA ⊢; omega) ?_
  repeat refine NeedW.mk trivial ?_
  have hc' : ClE es' := by
    rw [hes']
    intro e he x hx
    rcases List.mem_append.1 he with he | he
    · exact hc e he x hx
    · simp only [List.mem_singleton] at he
      subst he
      simp at hx
      rcases hx with rfl | rfl | rfl | rfl <;> rfl
  refine .mk { t := [(6, .at (.bool r))], m := [(0, .box 90 [.at (.int .i64 s0), .at (.int .i64 r1), .at (.int .i64 r2), .msl 4 2 0 n']), (2, .arr 123 4 es')], nx := 3 } (le_of hA (mv := []) (τ := [(0, some 0), (2, some 43)]) ?_) ?_
  · cbv
    subst hA
    simp only [Ar.std] at hmA
    simp [Ar.std, hmA, hr, hn', hn, hq2, ← hes']
    exact hc'
  · cbv
    refine .mk rfl ?_
    simp
    exact ⟨hnode, hc'⟩
end L12
namespace L12
open Go Go.Abs Go.Proofs
set_option maxRecDepth 100000
theorem orders_ok {w : Wld} (hw : WOk w) {stops : List Int} {es : List (List V)} (hes : es = stops.map cellI) (hlen : stops.length * 64 ≤ 140737488355328) {l : List Ord} {e : Int} (hr : (l, e) = ordersS w.orders stops) {el : List (List V)} (hel : el = l.map encO) :
    Sound Try.prog 40 [.agg (encW w), .row 1 es] 0 [] (.tup [.row 8 el, .at (.int .i64 e)]) [] 0 := by
  refine sound_ofL tbl_ok mix Try.func40 rfl rfl (of_decide_eq_true rfl) ?_
  have hl : es.length = stops.length := by subst hes; simp
  have hget : ∀ z x, stops[Int.toNat z]? = some x → es[Int.toNat z]? = some [V.at (.int .i64 x)] := fun z x h => by subst hes; simp [h, cellI]
  have hfind := fun id r => @find_ok w.orders id r hw.o
  unfold ordersS at hr
  obtain ⟨G, hG⟩ : ∃ G, G = ordersGo w.orders stops [] := ⟨_, rfl⟩
  obtain ⟨fin, hfin⟩ : ∃ fin, fin = putAll [] stops := ⟨_, rfl⟩
  rw [← hG, ← hfin] at hr
  unfold encW
  obtain ⟨eo, heo⟩ : ∃ eo, eo = w.orders.map encO := ⟨_, rfl⟩
  rw [← heo] at hfind ⊢
  generalize w.dist.map cellI = ed
  generalize w.time.map cellI = et
  generalize w.trucks.map encT = ek
  generalize w.n = wn
  generalize Try.prog = P at hfind ⊢
  generalize hA : Ar.std = A
  cbv
  repeat refine NeedW.mk trivial ?_
  refine .mk (fun k s => ∃ (z : Int) (n : Nat) (q : List Ord) (acc : List (List V)) (kvs : List (Int × Value)), 0 ≤ z ∧ k + z.toNat = stops.length ∧ n = q.length ∧ n ≤ z.toNat ∧ acc = q.map encO ∧ fin = putAll kvs (stops.drop z.toNat) ∧ G = ordersGo w.orders (stops.drop z.toNat) q ∧
    s = { t := [(14, .at (.int .i64 z)), (13, .at (.int .i64 (A.nat (A.len es)))), (12, .row 1 es), (7, .mp 5), (6, .msl 8 20 0 n), (2, .bptr 0 0), (1, .row 1 es)], m := [(5, .map .i64 kvs), (0, .box 28 [.at (.int .i64 wn), .row 1 ed, .row 1 et, .row 8 eo, .row 7 ek]), (20, .arr 48 8 acc)], nx := 21 }) stops.length _ (le_of hA (mv := []) (τ := [(5, some 5), (0, some 0), (20, none)]) ?_) ⟨0, 0, [], [], [], by simp, by simp, by simp, by simp, by simp, by simpa using hfin, by simpa using hG, rfl⟩ ?_
  · cbv <;> simp
  clear hfin hG
  rintro k s ⟨z, n, q, acc, kvs, h0, hk, hn, hnz, hacc, hfin, hG, rfl⟩
  have cq : ∀ q : List Ord, ClE (q.map encO) := fun q e he x hx => by
    obtain ⟨y, _, rfl⟩ := List.mem_map.1 he
    simp [encO] at hx
    rcases hx with rfl | rfl | rfl | rfl | rfl | rfl | rfl | rfl <;> rfl
  have cacc : ClE acc := hacc ▸ cq _
  have lacc : acc.length = n := by rw [hacc, hn]; simp
  cbv
  repeat refine NeedW.mk trivial ?_
  split <;> cbv
  · rename_i hlt
    replace hlt := lt_row hA h0 hlt
    obtain ⟨x, hx⟩ := get_lt (l := stops) (hl ▸ hlt)
    obtain ⟨z', hz⟩ : ∃ z', z' = z + 1 := ⟨_, rfl⟩
    rw [drop_cons h0 hx, ← hz] at hfin hG
    simp only [putAll, ordersGo] at hfin hG
    repeat refine NeedW.mk trivial ?_
    refine .mk _ h0 (hget z x hx) ?_
    cbv
    repeat refine NeedW.mk trivial ?_
    obtain ⟨f, hf⟩ : ∃ f, f = findS w.orders x := ⟨_, rfl⟩
    rw [← hf] at hG
    refine call0 (hfind x f hf) rfl rfl ?_
    cbv
    repeat refine NeedW.mk trivial ?_
    split <;> cbv
    · rename_i hneg
      have hneg : f < 0 := by subst hA; simpa [Ar.std] using hneg
      rw [if_pos hneg] at hG
      rw [hG] at hr
      simp only [Prod.mk.injEq] at hr
      obtain ⟨rfl, rfl⟩ := hr
      subst hel
      repeat refine NeedW.mk trivial ?_
      refine .mk { t := [(4, .row 8 []), (5, .at (.int .i64 5))], m := [], nx := 0 } (le_of hA (mv := []) (τ := []) ?_) ?_
      · cbv
      · cbv
        refine .mk rfl ?_
        trivial
    · rename_i hneg
      have hneg : ¬ f < 0 := by subst hA; simpa [Ar.std] using hneg
      rw [if_neg hneg] at hG
      have hrange := findS_range (l := w.orders) (id := x) (by rw [← hf]; exact hneg)
      rw [← hf] at hrange
      have hgo : eo[f.toNat]? = some (encO (w.orders.getD f.toNat default)) := by
        rw [heo, List.getElem?_map, List.getD_eq_getElem?_getD, List.getElem?_eq_getElem hrange]
        rfl
      obtain ⟨o, ho⟩ : ∃ o, o = w.orders.getD f.toNat default := ⟨_, rfl⟩
      rw [← ho] at hG hgo
      obtain ⟨acc', hacc'⟩ : ∃ acc', acc' = acc ++ [encO o] := ⟨_, rfl⟩
      obtain ⟨n', hn'⟩ : ∃ n', n' = n + 1 := ⟨_, rfl⟩
      have e1 : acc' = (q ++ [o]).map encO := by rw [hacc', hacc]; simp
      have cacc' : ClE acc' := e1 ▸ cq _
      clear ho
      obtain ⟨a0, a1, a2, a3, a4, a5, a6, a7⟩ := o
      unfold encO at hgo hacc'
      have hf0 : 0 ≤ f := by omega
      repeat refine NeedW.mk trivial ?_
      refine .mk _ hf0 hgo ?_
      cbv
      repeat refine NeedW.mk trivial ?_
      refine NeedW.mk (by subst hA; simp [Ar.std, lacc, V.one, Value.oneCell']; omega) ?_
      repeat refine NeedW.mk trivial ?_
      have hlen' : LOk stops.length := by show stops.length ≤ _; omega
      refine NeedW.mk (inc_ok hA h0 hlt (hl ▸ hlen')) ?_
      repeat refine NeedW.mk trivial ?_
      refine ⟨k - 1, _, by omega, le_of hA (mv := []) (τ := [(5, some 5), (0, some 0), (20, some 40)]) ?_, z', n', q ++ [⟨a0, a1, a2, a3, a4, a5, a6, a7⟩], acc', A.mput kvs x (.bool true), by omega, by omega, by simp; omega, by omega, e1, by subst hA; exact hfin, hG, rfl⟩
      cbv; subst hA; simp [Ar.std, hz, lacc, hn', ← hacc']
      exact cacc'
  · rename_i hge
    replace hge := ge_row hA h0 hge
    rw [List.drop_eq_nil_of_le (by omega)] at hfin hG
    simp only [putAll, ordersGo] at hfin hG
    subst hfin
    rw [hG] at hr
    simp only at hr
    repeat refine NeedW.mk trivial ?_
    split <;> cbv
    · rename_i hd
      have hd : fin.length < stops.length := by subst hA; simp [Ar.std] at hd; omega
      rw [if_pos hd] at hr
      simp only [Prod.mk.injEq] at hr
      obtain ⟨rfl, rfl⟩ := hr
      subst hel
      repeat refine NeedW.mk trivial ?_
      refine .mk { t := [(4, .row 8 []), (5, .at (.int .i64 6))], m := [], nx := 0 } (le_of hA (mv := []) (τ := []) ?_) ?_
      · cbv
      · cbv
        refine .mk rfl ?_
        trivial
    · rename_i hd
      have hd : ¬ fin.length < stops.length := by subst hA; simp [Ar.std] at hd; omega
      rw [if_neg hd] at hr
      simp only [Prod.mk.injEq] at hr
      obtain ⟨rfl, rfl⟩ := hr
      have hel : el = acc := by rw [hel, hacc]
      subst hel
      repeat refine NeedW.mk trivial ?_
      refine .mk { t := [(4, .row 8 el), (5, .at (.int .i64 0))], m := [], nx := 0 } (le_of hA (mv := [20]) (τ := []) ?_) ?_
      · cbv; subst hA; simp [Ar.std, lacc]; exact ⟨by rw [List.take_of_length_le (by omega)], cacc⟩
      · cbv
        refine .mk rfl ?_
        trivial
end L12
namespace L12
open Go Go.Abs Go.Proofs
set_option maxRecDepth 100000
theorem run_ok {w : Wld} (hw : WOk w) {truck : Int} {stops : List Int} {es : List (List V)} (hes : es = stops.map cellI) {p : Trp} {e : Int} (hr : (p, e) = runS w truck stops) {vs : List (List V)} (hvs : vs = p.visits.map encV) :
    Sound Try.prog 16 [.agg (encW w), .agg [.at (.int .i64 truck), .row 1 es]] 0 [] (.tup [.agg [.row 4 vs, .at (.int .i64 p.back), .at (.int .i64 p.dist), .at (.int .i64 p.cost)], .at (.int .i64 e)]) [] 0 := by
  refine sound_ofL tbl_ok mix Try.func16 rfl rfl (of_decide_eq_true rfl) ?_
  have hl : es.length = stops.length := by subst hes; simp
  obtain ⟨w0, hw0⟩ : ∃ x, x = worldS w := ⟨_, rfl⟩
  have c1 := world_ok hw hw0
  obtain ⟨f, hf⟩ : ∃ x, x = truckAt w.trucks truck := ⟨_, rfl⟩
  have c2 := truckAt_ok hw.k hf
  obtain ⟨l, lE, hl2⟩ : ∃ l e, (l, e) = ordersS w.orders stops := ⟨_, _, rfl⟩
  obtain ⟨el, hel⟩ : ∃ x, x = l.map encO := ⟨_, rfl⟩
  have c3 := fun h => orders_ok hw hes h hl2 hel
  obtain ⟨t, ht⟩ : ∃ t, t = w.trucks.getD f.toNat default := ⟨_, rfl⟩
  obtain ⟨cr, hcr⟩ : ∃ x, x = carriesS t l := ⟨_, rfl⟩
  have c4 := fun h => carries_ok (t := t) hel h hcr
  have c5 := @visit_ok w hw
  have c6 := @walk_ok w hw
  unfold runS at hr
  rw [← hw0, ← hf, ← hl2] at hr
  simp only at hr
  rw [← ht, ← hcr] at hr
  unfold encW at *
  generalize w.dist.map cellI = ed at *
  generalize w.time.map cellI = et at *
  generalize w.orders.map encO = eo at *
  obtain ⟨ek, hek⟩ : ∃ x, x = w.trucks.map encT := ⟨_, rfl⟩
  rw [← hek] at c1 c2 c3 ⊢
  obtain ⟨wn, hwn⟩ : ∃ x, x = w.n := ⟨_, rfl⟩
  rw [← hwn] at c1 c2 c3 c5 c6 ⊢
  generalize Try.prog = P at *
  generalize hA : Ar.std = A
  cbv
  repeat refine NeedW.mk trivial ?_
  refine call0 c1 rfl rfl ?_
  cbv
  repeat refine NeedW.mk trivial ?_
  split <;> cbv
  · rename_i hne
    have hne : w0 ≠ 0 := by subst hA; simpa [Ar.std] using hne
    rw [if_pos hne] at hr
    simp only [Prod.mk.injEq] at hr
    obtain ⟨rfl, he⟩ := hr
    obtain rfl : vs = [] := hvs
    repeat refine NeedW.mk trivial ?_
    refine .mk { t := [(4, .bptr 4 0), (5, .at (.int .i64 e))], m := [(4, .box 59 [.row 4 [], .at (.int .i64 0), .at (.int .i64 0), .at (.int .i64 0)])], nx := 5 } (le_of hA (mv := []) (τ := [(4, some 4)]) ?_) ?_
    · cbv
      simp [he]
    · cbv
      refine .mk rfl ?_
      trivial
  rename_i hne
  have hne : w0 = 0 := by subst hA; simpa [Ar.std] using hne
  rw [if_neg (by simp [hne])] at hr
  repeat refine NeedW.mk trivial ?_
  have h0 := worldS_ok (hw0.symm.trans hne)
  have hle : es = [] ↔ stops = [] := by subst hes; simp
  have hcond : ∀ (q : Prop), True := fun _ => trivial
  split <;> cbv
  · rename_i h1
    have h1 : es.length ≠ 0 := by subst hA; simp [Ar.std] at h1 ⊢; exact h1
    have h1' : stops ≠ [] := fun h => h1 (by rw [hl, h]; rfl)
    repeat refine NeedW.mk trivial ?_
    split <;> cbv
    · rename_i h2
      have h2 : 12 < stops.length := by subst hA; simp [Ar.std] at h2; omega
      rw [if_pos (.inr h2)] at hr
      simp only [Prod.mk.injEq] at hr
      obtain ⟨rfl, he⟩ := hr
      obtain rfl : vs = [] := hvs
      repeat refine NeedW.mk trivial ?_
      refine .mk { t := [(4, .bptr 4 0), (5, .at (.int .i64 e))], m := [(4, .box 59 [.row 4 [], .at (.int .i64 0), .at (.int .i64 0), .at (.int .i64 0)])], nx := 5 } (le_of hA (mv := []) (τ := [(4, some 4)]) ?_) ?_
      · cbv
        simp [he]
      · cbv
        refine .mk rfl ?_
        trivial
    rename_i h2
    have h2 : ¬ 12 < stops.length := by subst hA; simp [Ar.std] at h2; omega
    rw [if_neg (by simp [h1', h2])] at hr
    repeat refine NeedW.mk trivial ?_
    refine call0 c2 rfl rfl ?_
    cbv
    repeat refine NeedW.mk trivial ?_
    split <;> cbv
    · rename_i h3
      have h3 : f < 0 := by subst hA; simpa [Ar.std] using h3
      rw [if_pos h3] at hr
      simp only [Prod.mk.injEq] at hr
      obtain ⟨rfl, he⟩ := hr
      obtain rfl : vs = [] := hvs
      repeat refine NeedW.mk trivial ?_
      refine .mk { t := [(4, .bptr 4 0), (5, .at (.int .i64 e))], m := [(4, .box 59 [.row 4 [], .at (.int .i64 0), .at (.int .i64 0), .at (.int .i64 0)])], nx := 5 } (le_of hA (mv := []) (τ := [(4, some 4)]) ?_) ?_
      · cbv
        simp [he]
      · cbv
        refine .mk rfl ?_
        trivial
    rename_i h3
    have h3 : ¬ f < 0 := by subst hA; simpa [Ar.std] using h3
    rw [if_neg h3] at hr
    repeat refine NeedW.mk trivial ?_
    refine call0 (c3 (by omega)) rfl rfl ?_
    cbv
    repeat refine NeedW.mk trivial ?_
    split <;> cbv
    · rename_i h4
      have h4 : lE ≠ 0 := by subst hA; simpa [Ar.std] using h4
      rw [if_pos h4] at hr
      simp only [Prod.mk.injEq] at hr
      obtain ⟨rfl, he⟩ := hr
      obtain rfl : vs = [] := hvs
      repeat refine NeedW.mk trivial ?_
      refine .mk { t := [(4, .bptr 4 0), (5, .at (.int .i64 e))], m := [(4, .box 59 [.row 4 [], .at (.int .i64 0), .at (.int .i64 0), .at (.int .i64 0)])], nx := 5 } (le_of hA (mv := []) (τ := [(4, some 4)]) ?_) ?_
      · cbv
        simp [he]
      · cbv
        refine .mk rfl ?_
        trivial
    rename_i h4
    have h4 : lE = 0 := by subst hA; simpa [Ar.std] using h4
    rw [if_neg (by simp [h4])] at hr
    repeat refine NeedW.mk trivial ?_
    subst h4
    obtain ⟨hsub, hsl⟩ := ordersS_sub hl2
    have hrange := truckAt_range (l := w.trucks) (id := truck) (by rw [← hf]; exact h3)
    rw [← hf] at hrange
    have hgo : ek[f.toNat]? = some (encT t) := by
      rw [hek, List.getElem?_map, ht, List.getD_eq_getElem?_getD, List.getElem?_eq_getElem hrange]
      rfl
    have htk := h0.trk t (by rw [ht, List.getD_eq_getElem?_getD, List.getElem?_eq_getElem hrange]; exact List.getElem_mem hrange)
    have hf0 : 0 ≤ f := by omega
    have c4' := c4 (by omega)
    clear c1 c2 c3 c4 ht
    obtain ⟨a0, a1, a2, a3, a4, a5, a6⟩ := t
    have htk3 := htk.start
    have htk4 := htk.stop
    have htk5 := htk.fixed
    have htk6 := htk.rate
    unfold encT at hgo c4'
    unfold tripS at hr
    simp only at hgo c4' htk3 htk4 htk5 htk6 hr
    refine .mk _ hf0 hgo ?_
    cbv
    repeat refine NeedW.mk trivial ?_
    refine call0 c4' rfl rfl ?_
    cbv
    repeat refine NeedW.mk trivial ?_
    split <;> cbv
    · rename_i h5
      have h5 : cr ≠ 0 := by subst hA; simpa [Ar.std] using h5
      rw [if_pos h5] at hr
      simp only [Prod.mk.injEq] at hr
      obtain ⟨rfl, he⟩ := hr
      obtain rfl : vs = [] := hvs
      repeat refine NeedW.mk trivial ?_
      refine .mk { t := [(4, .bptr 4 0), (5, .at (.int .i64 e))], m := [(4, .box 59 [.row 4 [], .at (.int .i64 0), .at (.int .i64 0), .at (.int .i64 0)])], nx := 5 } (le_of hA (mv := []) (τ := [(4, some 4)]) ?_) ?_
      · cbv
        simp [he]
      · cbv
        refine .mk rfl ?_
        trivial
    rename_i h5
    have h5 : cr = 0 := by subst hA; simpa [Ar.std] using h5
    rw [if_neg (by simp [h5])] at hr
    repeat refine NeedW.mk trivial ?_
    obtain ⟨G, hG⟩ : ∃ G, G = runGo w ⟨0, a3, 0⟩ [] l := ⟨_, rfl⟩
    rw [← hG] at hr
    have hlen' : LOk el.length := by rw [hel, List.length_map]; show l.length ≤ _; omega
    have hll : el.length = l.length := by rw [hel, List.length_map]
    have hget : ∀ z o, l[Int.toNat z]? = some o → el[Int.toNat z]? = some (encO o) := fun z x h => by subst hel; simp [h]
    clear hl2 hes
    refine .mk (fun k s => ∃ (z : Int) (n : Nat) (q : Plc) (xs : List Vis) (acc : List (List V)) (q0 q1 q2 : Int), 0 ≤ z ∧ k + z.toNat = l.length ∧ n = xs.length ∧ n ≤ z.toNat ∧ acc = xs.map encV ∧ G = runGo w q xs (l.drop z.toNat) ∧ IOk q.node ∧ 0 ≤ q.time ∧ q.time ≤ 1000000 + 3000000 * z ∧ 0 ≤ q.dist ∧ q.dist ≤ 1000000 * z ∧ q.node = q0 ∧ q.time = q1 ∧ q.dist = q2 ∧
      s = { t := [(68, .at (.int .i64 z)), (67, .at (.int .i64 (A.nat (A.len el)))), (66, .row 8 el), (12, .bptr 58 0), (10, .bptr 45 0), (4, .bptr 4 0), (2, .bptr 0 0)], m := [(58, .box 90 [.at (.int .i64 q0), .at (.int .i64 q1), .at (.int .i64 q2), .msl 4 70 0 n]), (45, .box 50 [.at (.int .i64 a0), .at (.int .i64 a1), .at (.int .i64 a2), .at (.int .i64 a3), .at (.int .i64 a4), .at (.int .i64 a5), .at (.int .i64 a6)]),
        (4, .box 59 [.row 4 [], .at (.int .i64 0), .at (.int .i64 0), .at (.int .i64 0)]), (0, .box 28 [.at (.int .i64 wn), .row 1 ed, .row 1 et, .row 8 eo, .row 7 ek]), (70, .arr 123 4 acc)], nx := 71 }) l.length _ (le_of hA (mv := []) (τ := [(58, some 58), (45, some 45), (4, some 4), (0, some 0), (70, none)]) ?_) ⟨0, 0, ⟨0, a3, 0⟩, [], [], _, _, _, by simp, by simp, by simp, by simp, by simp, by simpa using hG, (by show (-9223372036854775807:Int) ≤ 0 ∧ (0:Int) ≤ _; omega), by simp; omega, by simp; omega, by simp, by simp, rfl, rfl, rfl, rfl⟩ ?_
    · cbv <;> simp
    clear hG
    rintro k s ⟨z, n, q, xs, acc, q0, q1, q2, hz0, hk, hn, hnz, hacc, hG, hqn, ht0, ht1, hd0, hd1, e0, e1, e2, rfl⟩
    have cq : ∀ q : List Vis, ClE (q.map encV) := fun q e he x hx => by
      obtain ⟨y, _, rfl⟩ := List.mem_map.1 he
      simp [encV] at hx
      rcases hx with rfl | rfl | rfl | rfl <;> rfl
    have cacc : ClE acc := hacc ▸ cq _
    have lacc : acc.length = n := by rw [hacc, hn]; simp
    cbv
    repeat refine NeedW.mk trivial ?_
    split <;> cbv
    · rename_i hlt
      replace hlt := lt_row hA hz0 hlt
      obtain ⟨o, ho⟩ := get_lt (l := l) (hll ▸ hlt)
      obtain ⟨z', hz⟩ : ∃ z', z' = z + 1 := ⟨_, rfl⟩
      rw [drop_cons hz0 ho, ← hz] at hG
      simp only [runGo] at hG
      have hoo := h0.ord o (hsub o (List.mem_of_getElem? ho))
      repeat refine NeedW.mk trivial ?_
      refine .mk _ hz0 (hget z o ho) ?_
      cbv
      repeat refine NeedW.mk trivial ?_
      obtain ⟨q0, q1, q2⟩ := q
      simp only at e0 e1 e2 hqn ht0 ht1 hd0 hd1
      subst e0 e1 e2
      have hwon := hw.n
      have hon := hoo.node
      have hno := h0.no
      have hos : o.lo ≤ 1000000 ∧ 0 ≤ o.service ∧ o.service ≤ 10000 := ⟨by have := hoo.lo; have := hoo.hi; omega, hoo.service.1, hoo.service.2⟩
      have hz13 : z < 13 := by omega
      have hqb : 0 ≤ q1 ∧ q1 ≤ 100000000000 ∧ 0 ≤ q2 ∧ q2 ≤ 1000000000000 := by omega
      have hvb := visit_bound (p := ⟨q0, q1, q2⟩) (hne ▸ hw0.symm) hqn hoo rfl hqb
      obtain ⟨q', hq'⟩ : ∃ x, x = visitP w ⟨q0, q1, q2⟩ o := ⟨_, rfl⟩
      obtain ⟨r, hr'⟩ : ∃ x, x = visitOk w ⟨q0, q1, q2⟩ o := ⟨_, rfl⟩
      obtain ⟨v, hv⟩ : ∃ x, x = visitV w ⟨q0, q1, q2⟩ o := ⟨_, rfl⟩
      obtain ⟨acc', hacc'⟩ : ∃ x, x = acc ++ [encV v] := ⟨_, rfl⟩
      obtain ⟨n', hn'⟩ : ∃ x, x = n + 1 := ⟨_, rfl⟩
      have c5' := c5 (hne ▸ hw0.symm) (p := ⟨q0, q1, q2⟩) hqn (o := o) (by omega) hqb hos lacc (by omega) cacc hq' (hv ▸ hacc') hn' hr'
      rw [← hq', ← hr', ← hv] at hG
      rw [← hq'] at hvb
      have hqn' : q'.node = o.node := by rw [hq']; rfl
      obtain ⟨q0', q1', q2'⟩ := q'
      simp only at c5' hvb hqn'
      have e1 : acc' = (xs ++ [v]).map encV := by rw [hacc', hacc]; simp
      have cacc' : ClE acc' := e1 ▸ cq _
      clear hv hr' hq' hacc'
      refine callR hA 81 [(0, 58), (1, 70)] c5' (by cbv; simp; exact ⟨cacc, cacc'⟩) rfl (by cbv; simp; exact cacc) ?_
      cbv
      repeat refine NeedW.mk trivial ?_
      split <;> cbv
      · rename_i hno
        have hno : r = false := by subst hA; simpa [Ar.std] using hno
        rw [hno] at hG
        rw [if_neg (by decide)] at hG
        rw [if_pos (by rw [hG])] at hr
        simp only [Prod.mk.injEq] at hr
        obtain ⟨rfl, he⟩ := hr
        obtain rfl : vs = [] := hvs
        repeat refine NeedW.mk trivial ?_
        refine .mk { t := [(4, .bptr 4 0), (5, .at (.int .i64 e))], m := [(4, .box 59 [.row 4 [], .at (.int .i64 0), .at (.int .i64 0), .at (.int .i64 0)])], nx := 5 } (le_of hA (mv := []) (τ := [(4, some 4)]) ?_) ?_
        · cbv
          simp [he]
        · cbv
          refine .mk rfl ?_
          trivial
      · rename_i hno
        have hno : r = true := by subst hA; simpa [Ar.std] using hno
        rw [hno] at hG
        rw [if_pos rfl] at hG
        refine NeedW.mk (inc_ok hA hz0 hlt hlen') ?_
        repeat refine NeedW.mk trivial ?_
        refine ⟨k - 1, _, by omega, le_of hA (mv := []) (τ := [(58, some 58), (45, some 45), (4, some 4), (0, some 0), (70, some 80)]) ?_, z', n', ⟨q0', q1', q2'⟩, xs ++ [v], acc', q0', q1', q2', by omega, by omega, by simp; omega, by omega, e1, hG, by show _ ≤ q0' ∧ q0' ≤ _; omega, by simp only; omega, by simp only; omega, by simp only; omega, by simp only; omega, rfl, rfl, rfl, rfl⟩
        cbv; subst hA; simp [Ar.std, hz, lacc, hn']
        exact cacc'
    · rename_i hge
      replace hge := ge_row hA hz0 hge
      rw [List.drop_eq_nil_of_le (by omega)] at hG
      simp only [runGo] at hG
      repeat refine NeedW.mk trivial ?_
      obtain ⟨q0, q1, q2⟩ := q
      simp only at e0 e1 e2 hqn ht0 ht1 hd0 hd1
      subst e0 e1 e2
      have hno := h0.no
      have hz13 : z ≤ 12 := by omega
      have hqb : 0 ≤ q1 ∧ q1 ≤ 100000000000 ∧ 0 ≤ q2 ∧ q2 ≤ 1000000000000 := by omega
      obtain ⟨q', hq'⟩ : ∃ x, x = walkS w ⟨q0, q1, q2⟩ 0 := ⟨_, rfl⟩
      have hwb := walk_bound (hne ▸ hw0.symm) (p := ⟨q0, q1, q2⟩) hqn hq' hqb
      have c6' := c6 (hne ▸ hw0.symm) (p := ⟨q0, q1, q2⟩) hqn (to := 0) (by simp only; omega) (n := n) cacc hq'
      rw [hG] at hr
      simp only at hr
      rw [← hq'] at hr
      obtain ⟨q0', q1', q2'⟩ := q'
      simp only at c6' hwb hr
      clear hq' hG
      refine callR hA 75 [(0, 58), (1, 70)] c6' (by cbv; simp; exact cacc) rfl (by cbv; simp; exact cacc) ?_
      cbv
      repeat refine NeedW.mk trivial ?_
      split <;> cbv
      · rename_i hlate
        have hlate : a4 < q1' := by subst hA; simpa [Ar.std] using hlate
        rw [if_neg (by decide), if_pos hlate] at hr
        simp only [Prod.mk.injEq] at hr
        obtain ⟨rfl, he⟩ := hr
        obtain rfl : vs = [] := hvs
        repeat refine NeedW.mk trivial ?_
        refine .mk { t := [(4, .bptr 4 0), (5, .at (.int .i64 e))], m := [(4, .box 59 [.row 4 [], .at (.int .i64 0), .at (.int .i64 0), .at (.int .i64 0)])], nx := 5 } (le_of hA (mv := []) (τ := [(4, some 4)]) ?_) ?_
        · cbv
          simp [he]
        · cbv
          refine .mk rfl ?_
          trivial
      · rename_i hlate
        have hlate : ¬ a4 < q1' := by subst hA; simpa [Ar.std] using hlate
        rw [if_neg (by decide), if_neg hlate] at hr
        obtain ⟨cc, hcc⟩ : ∃ x, x = a5 + a6 * q2' := ⟨_, rfl⟩
        rw [← hcc] at hr
        simp only [Prod.mk.injEq] at hr
        obtain ⟨rfl, he⟩ := hr
        obtain rfl : vs = acc := hvs.trans hacc.symm
        have hm1 : 0 ≤ a6 * q2' := Int.mul_nonneg (by omega) (by omega)
        have hm2 : a6 * q2' ≤ 1000 * 13000000 := Int.mul_le_mul (by omega) (by omega) (by omega) (by omega)
        repeat refine NeedW.mk trivial ?_
        refine NeedW.mk (by subst hA; refine inr64 ?_; simp only [Ar.std]; omega) ?_
        refine NeedW.mk (by subst hA; refine inr64 ?_; simp only [Ar.std]; omega) ?_
        repeat refine NeedW.mk trivial ?_
        refine .mk { t := [(4, .bptr 4 0), (5, .at (.int .i64 e))], m := [(4, .box 59 [.row 4 vs, .at (.int .i64 q1'), .at (.int .i64 q2'), .at (.int .i64 cc)])], nx := 5 } (le_of hA (mv := [70]) (τ := [(4, some 4)]) ?_) ?_
        · cbv
          subst hA
          simp [Ar.std, he, lacc, hcc]
          try exact ⟨by rw [List.take_of_length_le (by omega)], cacc⟩
        · cbv
          refine .mk rfl ?_
          trivial
  · rename_i h1
    have h1 : es.length = 0 := by subst hA; simp [Ar.std] at h1 ⊢; exact h1
    have h1' : stops = [] := List.eq_nil_of_length_eq_zero (by omega)
    rw [if_pos (.inl h1')] at hr
    repeat refine NeedW.mk trivial ?_
    simp only [Prod.mk.injEq] at hr
    obtain ⟨rfl, he⟩ := hr
    obtain rfl : vs = [] := hvs
    repeat refine NeedW.mk trivial ?_
    refine .mk { t := [(4, .bptr 4 0), (5, .at (.int .i64 e))], m := [(4, .box 59 [.row 4 [], .at (.int .i64 0), .at (.int .i64 0), .at (.int .i64 0)])], nx := 5 } (le_of hA (mv := []) (τ := [(4, some 4)]) ?_) ?_
    · cbv
      simp [he]
    · cbv
      refine .mk rfl ?_
      trivial
end L12
