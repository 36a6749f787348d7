/- Joined out of 76 texts, part 5 of 5: a pure machine that runs the translated code over plain values, with one theorem that says that it is right, and what the functions of the program come to on it. -/
import Derived.Test.YtpbehejllcoicaaGreatPmd
import Derived.Test.YtpbehejllcoicaaGreatPmc

set_option linter.unusedVariables false
set_option linter.unusedSimpArgs false

/- The two laws of Encode and Decode: what the calls come to. -/
namespace Go.Pm
open Go
set_option maxRecDepth 100000

theorem hvV_ge : ∀ {l : List Sgn} {n : Nat}, n ≤ hvV n l
  | [], n => Nat.le_refl _
  | s :: r, n => by
    unfold hvV
    split
    · exact Nat.le_trans (Nat.le_add_right _ _) hvV_ge
    · exact Nat.le_refl _
theorem hvT_ge : ∀ {l : List (List Int)} {n : Nat}, n ≤ hvT n l
  | [], n => Nat.le_refl _
  | s :: r, n => by
    unfold hvT
    split
    · exact Nat.le_trans (Nat.le_add_right _ _) hvT_ge
    · exact Nat.le_refl _
theorem hvT_len : ∀ {l : List (List Int)} {n : Nat}, hvT n l ≤ 300 → ∀ t ∈ l, t.length < 301000
  | [], _, _, t, ht => by simp at ht
  | s :: r, n, h, t, ht => by
    unfold hvT at h
    split at h
    · rcases List.mem_cons.1 ht with ht | ht
      · have := hvT_ge (l := r) (n := n + min s.length 1000000 / 1000)
        rw [ht]
        omega
      · exact hvT_len h t ht
    · omega
theorem light {vs : List Sgn} {ts : List (List Int)} (h : ¬ hvN vs ts > 300) : vs.length + ts.length ≤ 300 ∧ ∀ t ∈ ts, t.length < 301000 := by
  unfold hvN at h
  refine ⟨?_, hvT_len (n := hvV (vs.length + ts.length) vs) (by omega)⟩
  have h1 := hvV_ge (l := vs) (n := vs.length + ts.length)
  have h2 := hvT_ge (l := ts) (n := hvV (vs.length + ts.length) vs)
  omega
theorem decP_pcl {vs : List Sgn} {ts : List (List Int)} (h0 : bigV vs ts = false) (h1 : vs.all okS = true) (h2 : ts.all okT = true) (h3 : ordVw vs ts = true) (hw : ∀ s ∈ vs, s.vote.wide) : decPR (pclR (encVw vs ts)) = .tup [.agg [rowV vs, rowT ts], I 0] := by
  have hb : vs.length ≤ 64 ∧ ts.length ≤ 64 := by
    unfold bigV at h0
    simp only [Bool.or_eq_false_iff, decide_eq_false_iff_not] at h0
    omega
  have e1 : (pclR (encVw vs ts)).drop 8 = encVw vs ts := rfl
  have e2 : (pclR (encVw vs ts)).take 8 = (sumB (encVw vs ts)).list := rfl
  have e3 : ¬ (pclR (encVw vs ts)).length < 8 := by
    rw [pclR, List.length_append]
    show ¬ 8 + _ < 8
    omega
  unfold decPR
  rw [if_neg e3, e1, e2, dec_ok rfl, decVw_encVw h1 h2 h3 hw (by omega) (by omega)]
  simp only [h0]
  rfl
theorem lawEnc_spec {n : Nat} (hn : 20 ≤ n) (haw : tab n 10 [] = some (tB true, [])) {vs : List Sgn} {ts : List (List Int)} (h1 : vs.length < 1000000000000000) (h2 : ts.length < 1000000000000000) (hso : ∀ s ∈ vs, s.ok) (hw : ∀ s ∈ vs, s.vote.wide) (hto : ∀ t ∈ ts, Bs t) : tab (n + 1) 3 [.agg [SlV vs, SlT ts]] = some (tB true, []) := by
  refine tab_eval rfl rfl fun T L hT hL => ?_
  conv => lhs; whnf
  refine call_to hT (heavy_sl (by omega) h1 h2) ?_
  by_cases hv : hvN vs ts > 300
  · rw [dec_ok hv]
    conv => lhs; whnf
    refine call_to hT haw ?_
    conv => lhs; whnf
    rfl
  obtain ⟨hl, htl⟩ := light hv
  rw [decide_eq_false hv]
  have htl' : ∀ t ∈ ts, t.length < 1000000000 := fun t h => by have := htl t h; omega
  have hs : ∀ s ∈ vs, Bs s.sig := fun s h => (hso s h).2.2
  conv => lhs; whnf
  have he := hencP_sl (n := n) (by omega) (vs := vs) (ts := ts) (by omega) (by omega) htl' hs hto
  have hr := rencP_sl (n := n) (by omega) (vs := vs) (ts := ts) (by omega) (by omega) htl' hso hto
  have hd0 : tab n 13 [nilS] = some (.tup [zeroV, I 2], []) := by
    rw [hdecP_spec (n := n) (by omega) (x := nilS) (l := []) (.inl ⟨rfl, rfl⟩) Bs.nil (by simp), decPR, if_pos (by simp)]
  cases h0 : bigV vs ts
  case true =>
    have he : tab n 11 [.agg [SlV vs, SlT ts]] = some (.tup [nilS, I 5], []) := by rw [he, encPR, h0]; rfl
    have hr : tab n 12 [.agg [SlV vs, SlT ts]] = some (.tup [nilS, I 5], []) := by rw [hr, encPR, h0]; rfl
    conv => lhs; whnf
    refine call_to hT he ?_
    conv => lhs; whnf
    refine call_to hT hr ?_
    conv => lhs; whnf
    refine call_to hT hd0 ?_
    conv => lhs; whnf
    refine call_to hT haw ?_
    conv => lhs; whnf
    rfl
  cases ha : vs.all okS
  case false =>
    have he : tab n 11 [.agg [SlV vs, SlT ts]] = some (.tup [nilS, I 1], []) := by rw [he, encPR, h0, ha]; rfl
    have hr : tab n 12 [.agg [SlV vs, SlT ts]] = some (.tup [nilS, I 1], []) := by rw [hr, encPR, h0, ha]; rfl
    conv => lhs; whnf
    refine call_to hT he ?_
    conv => lhs; whnf
    refine call_to hT hr ?_
    conv => lhs; whnf
    refine call_to hT hd0 ?_
    conv => lhs; whnf
    refine call_to hT haw ?_
    conv => lhs; whnf
    rfl
  cases hb : ts.all okT
  case false =>
    have he : tab n 11 [.agg [SlV vs, SlT ts]] = some (.tup [nilS, I 1], []) := by rw [he, encPR, h0, ha, hb]; rfl
    have hr : tab n 12 [.agg [SlV vs, SlT ts]] = some (.tup [nilS, I 1], []) := by rw [hr, encPR, h0, ha, hb]; rfl
    conv => lhs; whnf
    refine call_to hT he ?_
    conv => lhs; whnf
    refine call_to hT hr ?_
    conv => lhs; whnf
    refine call_to hT hd0 ?_
    conv => lhs; whnf
    refine call_to hT haw ?_
    conv => lhs; whnf
    rfl
  cases hc : ordVw vs ts
  case false =>
    have he : tab n 11 [.agg [SlV vs, SlT ts]] = some (.tup [nilS, I 10], []) := by rw [he, encPR, h0, ha, hb, hc]; rfl
    have hr : tab n 12 [.agg [SlV vs, SlT ts]] = some (.tup [nilS, I 10], []) := by rw [hr, encPR, h0, ha, hb, hc]; rfl
    conv => lhs; whnf
    refine call_to hT he ?_
    conv => lhs; whnf
    refine call_to hT hr ?_
    conv => lhs; whnf
    refine call_to hT hd0 ?_
    conv => lhs; whnf
    refine call_to hT haw ?_
    conv => lhs; whnf
    rfl
  have he : tab n 11 [.agg [SlV vs, SlT ts]] = some (.tup [byR (pclR (encVw vs ts)), I 0], []) := by rw [he, encPR, h0, ha, hb, hc]; rfl
  have hr : tab n 12 [.agg [SlV vs, SlT ts]] = some (.tup [byR (pclR (encVw vs ts)), I 0], []) := by rw [hr, encPR, h0, ha, hb, hc]; rfl
  have hlen := encVw_len ha hb
  have hpb : Bs (pclR (encVw vs ts)) := (sumI_Bs _).append (encVw_Bs hso hto)
  have hpl : (pclR (encVw vs ts)).length = 8 + (encVw vs ts).length := by rw [pclR, List.length_append]; rfl
  have hd : tab n 13 [by_ (pclR (encVw vs ts))] = some (.tup [.agg [rowV vs, rowT ts], I 0], []) := by
    rw [hdecP_sl (by omega) hpb (by omega), decP_pcl h0 ha hb hc hw]
  have hsv : ∀ x y, HV x vs → HT y ts → tab n 14 [.agg [x, y], .agg [SlV vs, SlT ts]] = some (tB true, []) := by
    intro x y hx hy
    rw [sameV_spec (by omega) hx hy (.inr rfl) (.inr rfl) (by omega) (by omega) (by omega) (by omega) hs hs hto hto, dec_ok rfl, dec_ok rfl]
    rfl
  have hself : ∀ b : List Int, ((bytesOf b).data.toList == (bytesOf b).data.toList) = true := fun b => by simp
  clear hpb hpl hlen
  obtain ⟨P, hP⟩ : ∃ P, pclR (encVw vs ts) = P := ⟨_, rfl⟩
  rw [hP] at he hr hd
  clear hP
  rcases rowV_or vs with ⟨e1, g1⟩ | e1 <;> rcases rowT_or ts with ⟨e2, g2⟩ | e2
  all_goals
    rw [e1, e2] at hd
    conv => lhs; whnf
    refine call_to hT he ?_
    conv => lhs; whnf
    refine call_to hT hr ?_
    conv => lhs; whnf
    refine call_to hT hd ?_
    conv => lhs; whnf
    rw [hself]
    conv => lhs; whnf
  · refine call_to hT (hsv _ _ (.inl ⟨rfl, g1⟩) (.inl ⟨rfl, g2⟩)) ?_
    conv => lhs; whnf
    refine call_to hT haw ?_
    conv => lhs; whnf
    rfl
  · refine call_to hT (hsv _ _ (.inl ⟨rfl, g1⟩) (.inr rfl)) ?_
    conv => lhs; whnf
    refine call_to hT haw ?_
    conv => lhs; whnf
    rfl
  · refine call_to hT (hsv _ _ (.inr rfl) (.inl ⟨rfl, g2⟩)) ?_
    conv => lhs; whnf
    refine call_to hT haw ?_
    conv => lhs; whnf
    rfl
  · refine call_to hT (hsv _ _ (.inr rfl) (.inr rfl)) ?_
    conv => lhs; whnf
    refine call_to hT haw ?_
    conv => lhs; whnf
    rfl
theorem decPR_cases {l : List Int} (hb : Bs l) : decPR l = .tup [zeroV, I 2] ∨ decPR l = .tup [zeroV, I 104] ∨ decPR l = .tup [zeroV, I 4] ∨ decPR l = .tup [zeroV, I 5] ∨
    ∃ vs ts, decPR l = .tup [.agg [rowV vs, rowT ts], I 0] ∧ pclR (encVw vs ts) = l ∧ bigV vs ts = false ∧ vs.all okS = true ∧ ts.all okT = true ∧ ordVw vs ts = true ∧ (∀ s ∈ vs, s.ok) ∧ (∀ t ∈ ts, Bs t) := by
  unfold decPR
  by_cases h8 : l.length < 8
  · exact .inl (if_pos h8)
  rw [if_neg h8]
  cases hs : decide ((sumB (l.drop 8)).list = l.take 8)
  · exact .inr (.inl rfl)
  cases hd : decVw (l.drop 8) with
  | none => exact .inr (.inr (.inl rfl))
  | some p =>
    obtain ⟨vs, ts⟩ := p
    cases hg : bigV vs ts with
    | true => exact .inr (.inr (.inr (.inl (by simp [hg]))))
    | false =>
      obtain ⟨h1, h2, h3, h4, h5, _, _⟩ := decVw_some (hb.drop 8) hd
      refine .inr (.inr (.inr (.inr ⟨vs, ts, by simp [hg], ?_, hg, h2, h3, h4, fun s hs => (decVw_ok (hb.drop 8) hd s hs).1, h5⟩)))
      rw [h1, pclR, of_decide_eq_true hs, List.take_append_drop]
theorem encPR_nil : encPR [] [] = .tup [byR (pclR (encVw [] [])), I 0] := rfl
theorem lawDec_spec {n : Nat} (hn : 20 ≤ n) (haw : tab n 10 [] = some (tB true, [])) {l : List Int} (hb : Bs l) (hl : l.length < 1000000000000000) : tab (n + 1) 4 [by_ l] = some (tB true, []) := by
  refine tab_eval rfl rfl fun T L hT hL => ?_
  conv => lhs; whnf
  by_cases h0 : l.length > 50000
  · rw [show decide (((Els.ints .u8 l).len : Int) > 50000) = true from dec_ok (by simp [Els.len]; omega)]
    conv => lhs; whnf
    refine call_to hT haw ?_
    conv => lhs; whnf
    rfl
  rw [show decide (((Els.ints .u8 l).len : Int) > 50000) = false from decide_eq_false (by simp [Els.len]; omega)]
  have hd := hdecP_sl (n := n) (by omega) hb (by omega)
  have hr := rdecP_sl (n := n) (by omega) hb (by omega)
  have hz : tab n 14 [.agg [nilS, nilS], .agg [nilS, nilS]] = some (tB true, []) := by
    rw [sameV_spec (vs := []) (ws := []) (ts := []) (us := []) (by omega) (.inl ⟨rfl, rfl⟩) (.inl ⟨rfl, rfl⟩) (.inl ⟨rfl, rfl⟩) (.inl ⟨rfl, rfl⟩) (by simp) (by simp) (by simp) (by simp) (by simp) (by simp) (by simp) (by simp)]
    rfl
  have he0 : tab n 11 [.agg [nilS, nilS]] = some (.tup [byR (pclR (encVw [] [])), I 0], []) := by
    rw [hencP_spec (vs := []) (ts := []) (by omega) (.inl ⟨rfl, rfl⟩) (.inl ⟨rfl, rfl⟩) (by simp) (by simp) (by simp) (by simp) (by simp), encPR_nil]
  obtain ⟨P0, hP0⟩ : ∃ P, pclR (encVw [] []) = P := ⟨_, rfl⟩
  rw [hP0] at he0
  clear hP0
  have hself : ∀ b : List Int, ((bytesOf b).data.toList == (bytesOf b).data.toList) = true := fun b => by simp
  rcases decPR_cases hb with h | h | h | h | ⟨vs, ts, h, h1, h2, h3, h4, h5, h6, h7⟩
  case inr.inr.inr.inr =>
    rw [h] at hd hr
    have hb64 : vs.length ≤ 64 ∧ ts.length ≤ 64 := by
      unfold bigV at h2
      simp only [Bool.or_eq_false_iff, decide_eq_false_iff_not] at h2
      omega
    have htl : ∀ t ∈ ts, t.length < 1000000000 := fun t ht => by
      have := of_decide_eq_true (List.all_eq_true.1 h4 t ht)
      omega
    have hsb : ∀ s ∈ vs, Bs s.sig := fun s hs => (h6 s hs).2.2
    have hsv : ∀ x y x' y', HV x vs → HT y ts → HV x' vs → HT y' ts → tab n 14 [.agg [x, y], .agg [x', y']] = some (tB true, []) := by
      intro x y x' y' a b c d
      rw [sameV_spec (by omega) a b c d (by omega) (by omega) (by omega) (by omega) hsb hsb h7 h7, dec_ok rfl, dec_ok rfl]
      rfl
    have hen : ∀ x y, HV x vs → HT y ts → tab n 11 [.agg [x, y]] = some (.tup [byR l, I 0], []) := by
      intro x y a b
      rw [hencP_spec (by omega) a b (by omega) (by omega) htl hsb h7, encPR, h2, h3, h4, h5, h1]
      rfl
    clear h1 h h2 h3 h4 h5 h6 htl hz he0
    rcases rowV_or vs with ⟨e1, g1⟩ | e1 <;> rcases rowT_or ts with ⟨e2, g2⟩ | e2
    all_goals
      rw [e1, e2] at hd hr
      conv => lhs; whnf
      refine call_to hT hd ?_
      conv => lhs; whnf
      refine call_to hT hr ?_
      conv => lhs; whnf
    · refine call_to hT (hsv _ _ _ _ (.inl ⟨rfl, g1⟩) (.inl ⟨rfl, g2⟩) (.inl ⟨rfl, g1⟩) (.inl ⟨rfl, g2⟩)) ?_
      conv => lhs; whnf
      refine call_to hT (hen _ _ (.inl ⟨rfl, g1⟩) (.inl ⟨rfl, g2⟩)) ?_
      conv => lhs; whnf
      rw [hself]
      conv => lhs; whnf
      refine call_to hT haw ?_
      conv => lhs; whnf
      rfl
    · refine call_to hT (hsv _ _ _ _ (.inl ⟨rfl, g1⟩) (.inr rfl) (.inl ⟨rfl, g1⟩) (.inr rfl)) ?_
      conv => lhs; whnf
      refine call_to hT (hen _ _ (.inl ⟨rfl, g1⟩) (.inr rfl)) ?_
      conv => lhs; whnf
      rw [hself]
      conv => lhs; whnf
      refine call_to hT haw ?_
      conv => lhs; whnf
      rfl
    · refine call_to hT (hsv _ _ _ _ (.inr rfl) (.inl ⟨rfl, g2⟩) (.inr rfl) (.inl ⟨rfl, g2⟩)) ?_
      conv => lhs; whnf
      refine call_to hT (hen _ _ (.inr rfl) (.inl ⟨rfl, g2⟩)) ?_
      conv => lhs; whnf
      rw [hself]
      conv => lhs; whnf
      refine call_to hT haw ?_
      conv => lhs; whnf
      rfl
    · refine call_to hT (hsv _ _ _ _ (.inr rfl) (.inr rfl) (.inr rfl) (.inr rfl)) ?_
      conv => lhs; whnf
      refine call_to hT (hen _ _ (.inr rfl) (.inr rfl)) ?_
      conv => lhs; whnf
      rw [hself]
      conv => lhs; whnf
      refine call_to hT haw ?_
      conv => lhs; whnf
      rfl
  all_goals
    rw [h] at hd hr
    clear h
    conv => lhs; whnf
    refine call_to hT hd ?_
    conv => lhs; whnf
    refine call_to hT hr ?_
    conv => lhs; whnf
    refine call_to hT hz ?_
    conv => lhs; whnf
    refine call_to hT he0 ?_
    conv => lhs; whnf
    cases (bytesOf P0).data.toList == (bytesOf l).data.toList
    · conv => lhs; whnf
      refine call_to hT haw ?_
      conv => lhs; whnf
      rfl
    · conv => lhs; whnf
      refine call_to hT haw ?_
      conv => lhs; whnf
      rfl
theorem sg25 : segs PP 25 = some [(0, 22), (1, 23)] := by kernel_rfl
theorem sg62 : segs PP 62 = some [(0, 60), (22, 28)] := by kernel_rfl
theorem sg60 : segs PP 60 = some [(0, 3), (1, 3), (2, 3), (3, 3), (4, 3), (5, 56), (6, 58), (14, 58)] := by kernel_rfl
theorem sg58 : segs PP 58 = some [(0, 5), (1, 5), (2, 5), (3, 5), (4, 5), (5, 5), (6, 5), (7, 5)] := by kernel_rfl
theorem co25 : PP.cellsOf 25 = 2 := by kernel_rfl
theorem co62 : PP.cellsOf 62 = 23 := by kernel_rfl
theorem co60 : PP.cellsOf 60 = 22 := by kernel_rfl
theorem co58 : PP.cellsOf 58 = 8 := by kernel_rfl
theorem co1 : PP.cellsOf 3 = 1 ∧ PP.cellsOf 5 = 1 ∧ PP.cellsOf 56 = 1 ∧ PP.cellsOf 28 = 1 ∧ PP.cellsOf 22 = 1 ∧ PP.cellsOf 23 = 1 := ⟨by kernel_rfl, by kernel_rfl, by kernel_rfl, by kernel_rfl, by kernel_rfl, by kernel_rfl⟩
theorem it1 : intT PP 3 = some .i64 ∧ intT PP 5 = some .u8 ∧ intT PP 56 = some .i64 ∧ intT PP 28 = none ∧ intT PP 62 = none := ⟨by kernel_rfl, by kernel_rfl, by kernel_rfl, by kernel_rfl, by kernel_rfl⟩
theorem st1 : sliceT PP 28 = some 5 ∧ sliceT PP 22 = some 62 ∧ sliceT PP 23 = some 28 := ⟨by kernel_rfl, by kernel_rfl, by kernel_rfl⟩
theorem bo1 : PP.bytesOf 5 = 1 ∧ PP.bytesOf 62 = 88 ∧ PP.bytesOf 28 = 24 := ⟨by kernel_rfl, by kernel_rfl, by kernel_rfl⟩
theorem ag1 : isAgg PP 62 = true ∧ isAgg PP 28 = false ∧ isAgg PP 25 = true := ⟨by kernel_rfl, by kernel_rfl, by kernel_rfl⟩
theorem u8_rng {z : Int} (h : IntKind.u8.min ≤ z ∧ z ≤ IntKind.u8.max) : 0 ≤ z ∧ z < 256 := by
  have h1 : IntKind.u8.min = 0 := rfl
  have h2 : IntKind.u8.max = 255 := rfl
  omega
theorem i64_rng {z : Int} (h : IntKind.i64.min ≤ z ∧ z ≤ IntKind.i64.max) : -9223372036854775808 ≤ z ∧ z < 9223372036854775808 := by
  have h1 : IntKind.i64.min = -9223372036854775808 := rfl
  have h2 : IntKind.i64.max = 9223372036854775807 := rfl
  omega
theorem name_of {n : Nat} {xs : List PV} (h : RowT PP (n + 1) 58 xs) : ∃ m : Nm, xs = m.cells ∧ m.ok := by
  obtain ⟨h1, h2⟩ := h.segs sg58
  rw [co58] at h1
  match xs, h1 with
  | [x0, x1, x2, x3, x4, x5, x6, x7], _ =>
    have g := fun s hs => (h2 s hs)
    have k : ∀ i, (i, 5) ∈ [(0, 5), (1, 5), (2, 5), (3, 5), (4, 5), (5, 5), (6, 5), (7, (5 : TypeId))] → ∃ z, (([x0, x1, x2, x3, x4, x5, x6, x7] : List PV).drop i).take 1 = [.val (.int .u8 z)] ∧ 0 ≤ z ∧ z < 256 := by
      intro i hi
      have := h2 (i, 5) hi
      simp only [co1.2.1] at this
      obtain ⟨z, hz, hr⟩ := this.int it1.2.1
      exact ⟨z, hz, u8_rng hr⟩
    obtain ⟨z0, e0, r0⟩ := k 0 (by simp)
    obtain ⟨z1, e1, r1⟩ := k 1 (by simp)
    obtain ⟨z2, e2, r2⟩ := k 2 (by simp)
    obtain ⟨z3, e3, r3⟩ := k 3 (by simp)
    obtain ⟨z4, e4, r4⟩ := k 4 (by simp)
    obtain ⟨z5, e5, r5⟩ := k 5 (by simp)
    obtain ⟨z6, e6, r6⟩ := k 6 (by simp)
    obtain ⟨z7, e7, r7⟩ := k 7 (by simp)
    simp only [List.drop_zero, List.drop_succ_cons, List.take_succ_cons, List.take_zero, List.cons.injEq, and_true] at e0 e1 e2 e3 e4 e5 e6 e7
    subst e0 e1 e2 e3 e4 e5 e6 e7
    exact ⟨⟨z0, z1, z2, z3, z4, z5, z6, z7⟩, rfl, Bs.cons r0 (Bs.cons r1 (Bs.cons r2 (Bs.cons r3 (Bs.cons r4 (Bs.cons r5 (Bs.cons r6 (Bs.cons r7 Bs.nil)))))))⟩
theorem vote_of {n : Nat} {xs : List PV} (h : RowT PP (n + 2) 60 xs) : ∃ v : Vot, xs = v.cells ∧ v.parent.ok ∧ v.value.ok ∧ v.wide := by
  obtain ⟨h1, h2⟩ := h.segs sg60
  rw [co60] at h1
  match xs, h1 with
  | [x0, x1, x2, x3, x4, x5, p0, p1, p2, p3, p4, p5, p6, p7, v0, v1, v2, v3, v4, v5, v6, v7], _ =>
    have k : ∀ i, (i, (3 : TypeId)) ∈ [(0, 3), (1, 3), (2, 3), (3, 3), (4, 3), (5, 56), (6, 58), (14, (58 : TypeId))] → ∃ z, (([x0, x1, x2, x3, x4, x5, p0, p1, p2, p3, p4, p5, p6, p7, v0, v1, v2, v3, v4, v5, v6, v7] : List PV).drop i).take 1 = [.val (.int .i64 z)] := by
      intro i hi
      have := h2 (i, 3) hi
      simp only [co1.1] at this
      obtain ⟨z, hz, hr⟩ := this.int it1.1
      exact ⟨z, hz⟩
    obtain ⟨z0, e0⟩ := k 0 (by simp)
    obtain ⟨z1, e1⟩ := k 1 (by simp)
    obtain ⟨z2, e2⟩ := k 2 (by simp)
    obtain ⟨z3, e3⟩ := k 3 (by simp)
    obtain ⟨z4, e4⟩ := k 4 (by simp)
    obtain ⟨z5, e5, r5⟩ : ∃ z, (([x0, x1, x2, x3, x4, x5, p0, p1, p2, p3, p4, p5, p6, p7, v0, v1, v2, v3, v4, v5, v6, v7] : List PV).drop 5).take 1 = [.val (.int .i64 z)] ∧ (IntKind.i64.min ≤ z ∧ z ≤ IntKind.i64.max) := by
      have := h2 (5, 56) (by simp)
      simp only [co1.2.2.1] at this
      exact this.int it1.2.2.1
    have hp := h2 (6, 58) (by simp)
    have hv := h2 (14, 58) (by simp)
    simp only [co58] at hp hv
    obtain ⟨p, ep, rp⟩ := name_of hp
    obtain ⟨v, ev, rv⟩ := name_of hv
    simp only [List.drop_zero, List.drop_succ_cons, List.take_succ_cons, List.take_zero, List.cons.injEq, and_true, Nm.cells] at e0 e1 e2 e3 e4 e5 ep ev
    subst e0 e1 e2 e3 e4 e5
    obtain ⟨rfl, rfl, rfl, rfl, rfl, rfl, rfl, rfl⟩ := ep
    obtain ⟨rfl, rfl, rfl, rfl, rfl, rfl, rfl, rfl⟩ := ev
    exact ⟨⟨z0, z1, z2, z3, z4, z5, p, v⟩, rfl, rp, rv, i64_rng r5⟩
theorem bytes_of {n : Nat} {xs : List PV} (h : RowT PP n 28 xs) : ∃ l : List Int, xs = [by_ l] ∧ Bs l ∧ l.length ≤ reachBytes := by
  obtain ⟨l, h1, h2, h3⟩ := h.ints st1.1 it1.2.1
  rw [bo1.1, Nat.mul_one] at h2
  exact ⟨l, h1, fun z hz => u8_rng (h3 z hz), h2⟩
theorem signed_of {n : Nat} {xs : List PV} (h : RowT PP (n + 3) 62 xs) : ∃ s : Sgn, .agg xs = s.pv ∧ s.ok ∧ s.vote.wide := by
  obtain ⟨h1, h2⟩ := h.segs sg62
  have hv := h2 (0, 60) (by simp)
  have hs := h2 (22, 28) (by simp)
  simp only [co60, co1.2.2.2.1, List.drop_zero] at hv hs
  rw [co62] at h1
  obtain ⟨v, ev, rp, rv, rw'⟩ := vote_of hv
  obtain ⟨l, el, hb, _⟩ := bytes_of hs
  refine ⟨⟨v, l⟩, ?_, ⟨rp, rv, hb⟩, rw'⟩
  rw [Sgn.pv, ← ev, ← el]
  refine congrArg PV.agg ?_
  have : (xs.drop 22).take 1 = xs.drop 22 := List.take_of_length_le (by rw [List.length_drop]; omega)
  rw [this, List.take_append_drop]
theorem view_of {n : Nat} {xs : List PV} (h : RowT PP (n + 5) 25 xs) : ∃ (vs : List Sgn) (ts : List (List Int)), xs = [SlV vs, SlT ts] ∧ vs.length < 1000000000000000 ∧ ts.length < 1000000000000000 ∧ (∀ s ∈ vs, s.ok) ∧ (∀ s ∈ vs, s.vote.wide) ∧ ∀ t ∈ ts, Bs t := by
  obtain ⟨h1, h2⟩ := h.segs sg25
  have hv := h2 (0, 22) (by simp)
  have ht := h2 (1, 23) (by simp)
  simp only [co1.2.2.2.2.1, co1.2.2.2.2.2, List.drop_zero] at hv ht
  rw [co25] at h1
  match xs, h1 with
  | [x, y], _ =>
    obtain ⟨l, el, hl, hle⟩ := hv.els st1.2.1 it1.2.2.2.2
    obtain ⟨m, em, hm, hme⟩ := ht.els st1.2.2 it1.2.2.2.1
    obtain ⟨vs, rfl, hvs⟩ := map_of (f := Sgn.pv) (Q := fun s => s.ok ∧ s.vote.wide) (l := l) fun y hy => by
      obtain ⟨ys, h1, h2⟩ := hle y hy
      obtain ⟨s, e, h⟩ := signed_of h1
      refine ⟨s, ?_, h⟩
      rw [h2, ag1.1]
      exact e
    obtain ⟨ts, rfl, hts⟩ := map_of (f := by_) (Q := Bs) (l := m) fun y hy => by
      obtain ⟨ys, h1, h2⟩ := hme y hy
      obtain ⟨l, e, hb, _⟩ := bytes_of h1
      refine ⟨l, ?_, hb⟩
      rw [h2, ag1.2.1, e]
      rfl
    simp only [List.take_succ_cons, List.take_zero, List.drop_succ_cons, List.drop_zero, List.cons.injEq, and_true] at el em
    rw [bo1.2.1] at hl
    rw [bo1.2.2] at hm
    have hre : reachBytes = 140737488351232 := rfl
    rw [List.length_map] at hl hm
    exact ⟨vs, ts, by rw [el, em]; rfl, by omega, by omega, fun s hs => (hvs s hs).1, fun s hs => (hvs s hs).2, hts⟩
theorem encode_main (xs : List PV) (h : ArgsT PP 20 [25] xs) : Contract PP 3 xs (.val (.bool true)) [] := by
  match xs, h with
  | [x], ⟨⟨ys, h1, h2⟩, _⟩ =>
    obtain ⟨vs, ts, rfl, g1, g2, g3, g4, g5⟩ := view_of (n := 15) h1
    rw [ag1.2.2] at h2
    subst h2
    exact tab_contract (by decide) (lawEnc_spec (n := 30) (by omega) awake_val g1 g2 g3 g4 g5)
theorem decode_main (xs : List PV) (h : ArgsT PP 20 [28] xs) : Contract PP 4 xs (.val (.bool true)) [] := by
  match xs, h with
  | [x], ⟨⟨ys, h1, h2⟩, _⟩ =>
    obtain ⟨l, rfl, g1, g2⟩ := bytes_of h1
    rw [ag1.2.1] at h2
    subst h2
    have hre : reachBytes = 140737488351232 := rfl
    exact tab_contract (by decide) (lawDec_spec (n := 30) (by omega) awake_val g1 (by omega))
end Go.Pm
