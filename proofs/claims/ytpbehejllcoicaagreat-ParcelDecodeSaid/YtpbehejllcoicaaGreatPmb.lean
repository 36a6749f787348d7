/- Joined out of 76 texts, part 2 of 5: a pure machine that runs the translated code over plain values, with one theorem that says that it is right, and what the functions of the program come to on it. -/
import Derived.Test.YtpbehejllcoicaaGreatPma
import Derived.Laws.IdiomCopy
import Derived.MapKept

set_option linter.unusedVariables false
set_option linter.unusedSimpArgs false

/- Rows of the call's own, written in place; function values. -/
namespace Go.Pm
open Go.RowKit

section
variable {P : Program} {W : World} {ps : List Nat} {G : Ghost} {m : Mem} {w : World}

/-- A row's content is replaced. -/
theorem InvM.putRow {w' : World} (h : InvM P W ps G m w) {r : Nat} {e : TypeId} {E0 E : Els} {v : Value} (hr : mget m r = some (.row e E0, false)) (hv : G.R r = some v)
    (hbase : w'.os = w.os ∧ w'.tape = w.tape ∧ w'.output = w.output ∧ w.heap.size ≤ w'.heap.size)
    (hw : ∀ g, v.ownBlock ≠ some g → w'.heap[g]? = w.heap[g]?) (hrow : RowOk P G.H w' e E v) : InvM P W ps G (mset m r (.row e E, false)) w' := by
  have hobj := h.obj r _ hr
  have hbb : ∀ b, blk G r (.row e E0) = some b ↔ v.ownBlock = some b := fun b => by simp [blk, hv]
  refine h.go (Ext.refl G) hbase (fun k => k = r) ?_ ?_ ?_ ?_ ?_ ?_ ?_ ?_ ?_
  · intro k hk; rw [mget_mset, if_neg (Ne.symm hk)]
  · intro k o hk; rw [mget_mset]; split <;> simp [hk]
  · intro g _ hg; exact hw g fun e => hg r _ rfl hr ((hbb g).2 e)
  · intro b cs h1 h2; rw [h1] at h2; cases h2
  · intro b cs h1 h2; rw [h1] at h2; cases h2
  · rintro k o rfl hk
    rw [mget_mset, if_pos rfl, hr] at hk
    injection hk with hk
    subst hk
    exact ⟨v, hv, hrow, fun b hb => by
      have := hobj.base ((hbb b).2 hb)
      exact ⟨this.1, this.2.1⟩⟩
  · rintro i j c d rfl hi hj hne g hbi hbj
    rw [mget_mset, if_pos rfl, hr] at hi
    injection hi with hi
    injection hi with hi _
    subst hi
    rw [mget_mset, if_neg hne] at hj
    exact h.apart i j _ d hr hj hne g (by simpa [blk] using hbi) hbj
  · intro r v h1 h2; rw [h1] at h2; cases h2
  · intro r v h1 h2; rw [h1] at h2; cases h2

/-- Cells of a row are written: what the row is then. -/
theorem RowOk.store {H : Sharing} {e : TypeId} {E E' : Els} {g n cap : Nat} {us us' : List Value} (hE : ElsOk P H e E us) (hown : w.ownsRow 0 e (sizeT P e) (.slice (some ⟨g, 0, none⟩) n cap) E.len (flatV us)) (hE' : ElsOk P H e E' us') (hl : E'.len = E.len)
    (k : Nat) (cs : List Value) (hk : k + cs.length ≤ E.len * sizeT P e) (h1 : ∀ u ∈ cs, u.oneCell' = true) (hf : flatV us' = (flatV us).take k ++ cs ++ (flatV us).drop (k + cs.length)) :
    ∃ cur, w.heap[g]? = some (.cells cur e (0, 0)) ∧ k + cs.length ≤ cur.size ∧
      (storeCells ⟨g, k, none⟩ cs).run P w = .ok () (w.setRow g (cur.toList.take k ++ cs ++ cur.toList.drop (k + cs.length)).toArray) ∧
      RowOk P H (w.setRow g (cur.toList.take k ++ cs ++ cur.toList.drop (k + cs.length)).toArray) e E' (.slice (some ⟨g, 0, none⟩) n cap) := by
  obtain ⟨hlen, hown⟩ := hown
  rcases hown with ⟨h0, _⟩ | ⟨g', cap', cur, h0, hb, hg, hnc, hcm, hcs, htake⟩
  · cases h0
  · injection h0 with h0 h0' h0''
    injection h0 with h0
    injection h0 with h0 _
    subst h0 h0' h0''
    have hcur : E.len * sizeT P e ≤ cur.size := by rw [hcs]; exact Nat.mul_le_mul_right _ hnc
    have hst := run_storeCells_at P g k e cs 0 cur w hg (by simpa using (by omega : k + cs.length ≤ cur.size)) h1
    simp only [Nat.add_zero] at hst
    refine ⟨cur, hg, by omega, hst, us', hE'.1, hE'.2, ?_⟩
    rw [hl]
    have hfl : (flatV us').length = E.len * sizeT P e := by rw [flatV_length hE'.sz, hE'.1, hl]
    refine ⟨hfl, .inr ⟨g, cap, _, by rfl, hb, setRow_heap w g cur _ e _ hg, hnc, hcm, ?_, ?_⟩⟩
    · simp only [List.size_toArray, List.length_append, List.length_take, List.length_drop, Array.length_toList]; omega
    · have hX : cur.toList = flatV us ++ cur.toList.drop (E.len * sizeT P e) := by rw [← htake, List.take_append_drop]
      have hXl : (flatV us).length = E.len * sizeT P e := by rw [flatV_length hE.sz, hE.1]
      have e1 : cur.toList.take k = (flatV us).take k := by rw [← htake, List.take_take, Nat.min_eq_left (by omega)]
      have e2 : cur.toList.drop (k + cs.length) = (flatV us).drop (k + cs.length) ++ cur.toList.drop (E.len * sizeT P e) := by
        conv => lhs; rw [hX]
        rw [List.drop_append_of_le_length (by omega)]
      show ((cur.toList.take k ++ cs ++ cur.toList.drop (k + cs.length)).toArray.toList).take (E.len * sizeT P e) = flatV us'
      rw [List.toList_toArray, e1, e2, ← List.append_assoc, ← hf, ← hfl]
      exact List.take_left

theorem Els.len_splice {F E E' : Els} {lo : Nat} (h : Els.splice lo F E = some E') (hle : lo + F.len ≤ E.len) : E'.len = E.len := by
  cases F <;> cases E <;> simp only [Els.splice, reduceCtorEq] at h
  · split at h <;> simp at h
    subst h
    simp only [Els.len, List.length_append, List.length_take, List.length_drop] at *
    omega
  · injection h with h
    subst h
    simp only [Els.len, List.length_append, List.length_take, List.length_drop] at *
    omega
theorem splice_get {α : Type} (l l' : List α) (lo i : Nat) (h : lo + l'.length ≤ l.length) : (l.take lo ++ l' ++ l.drop (lo + l'.length))[i]? = if lo ≤ i ∧ i < lo + l'.length then l'[i - lo]? else l[i]? := by
  have e1 : (l.take lo).length = lo := by rw [List.length_take]; omega
  rw [List.append_assoc]
  by_cases h1 : i < lo
  · rw [if_neg (by omega), List.getElem?_append_left (by omega), List.getElem?_take, if_pos h1]
  · rw [List.getElem?_append_right (by omega), e1]
    by_cases h2 : i < lo + l'.length
    · rw [if_pos (by omega), List.getElem?_append_left (by omega)]
    · rw [if_neg (by omega), List.getElem?_append_right (by omega), List.getElem?_drop]
      congr 1
      omega
theorem Els.at_splice {F E E' : Els} {lo : Nat} (h : Els.splice lo F E = some E') (hle : lo + F.len ≤ E.len) (i : Nat) : E'.at i = if lo ≤ i ∧ i < lo + F.len then F.at (i - lo) else E.at i := by
  cases F <;> cases E <;> simp only [Els.splice, reduceCtorEq] at h
  · split at h <;> simp only [Option.some.injEq, reduceCtorEq] at h
    rename_i hk
    subst h hk
    simp only [Els.len] at hle
    simp only [Els.at, Els.len, List.getD_eq_getElem?_getD, splice_get _ _ _ _ hle]
    split <;> rfl
  · injection h with h
    subst h
    simp only [Els.len] at hle
    simp only [Els.at, Els.len, List.getD_eq_getElem?_getD, splice_get _ _ _ _ hle]
    split <;> rfl
theorem ElsOk.splice {H : Sharing} {e : TypeId} {F E E' : Els} {lo : Nat} {us vs : List Value} (hE : ElsOk P H e E us) (hF : ElsOk P H e F vs) (h : Els.splice lo F E = some E') (hle : lo + F.len ≤ E.len) :
    ElsOk P H e E' (us.take lo ++ vs ++ us.drop (lo + vs.length)) := by
  have hl := Els.len_splice h hle
  refine ⟨?_, fun i u hu => ?_⟩
  · simp only [List.length_append, List.length_take, List.length_drop, hE.1, hF.1, hl]; omega
  · rw [splice_get _ _ _ _ (by rw [hE.1, hF.1]; exact hle), hF.1] at hu
    rw [Els.at_splice h hle]
    split
    · rename_i hi
      rw [if_pos hi] at hu
      exact hF.2 _ _ hu
    · rename_i hi
      rw [if_neg hi] at hu
      exact hE.2 _ _ hu
theorem flatV_splice {us vs : List Value} {sz lo : Nat} (h : ∀ (i : Nat) (u : Value), us[i]? = some u → u.cells.size = sz) (hv : ∀ (i : Nat) (u : Value), vs[i]? = some u → u.cells.size = sz) :
    flatV (us.take lo ++ vs ++ us.drop (lo + vs.length)) = (flatV us).take (lo * sz) ++ flatV vs ++ (flatV us).drop (lo * sz + (flatV vs).length) := by
  rw [flatV_append, flatV_append, flatV_take h, flatV_length hv, ← Nat.add_mul, flatV_drop h]

/-- Elements of a row are written over. -/
theorem splice_run {r : Nat} {e : TypeId} {E E' F : Els} {lo : Nat} {vs : List Value} {v : Value} (hI : InvM P W ps G m w) (hr : mget m r = some (.row e E, false)) (hv : G.R r = some v) (hF : ElsOk P G.H e F vs) (h : Els.splice lo F E = some E') (hle : lo + F.len ≤ E.len) :
    (F.len = 0 → InvM P W ps G (mset m r (.row e E', false)) w) ∧
    (0 < F.len → ∃ g n cap, v = .slice (some ⟨g, 0, none⟩) n cap ∧ ∃ cur, w.heap[g]? = some (.cells cur e (0, 0)) ∧ lo * sizeT P e + (flatV vs).length ≤ cur.size ∧ ∃ w', w' = w.setRow g (cur.toList.take (lo * sizeT P e) ++ flatV vs ++ cur.toList.drop (lo * sizeT P e + (flatV vs).length)).toArray ∧
      (storeCells ⟨g, lo * sizeT P e, none⟩ (flatV vs)).run P w = .ok () w' ∧ InvM P W ps G (mset m r (.row e E', false)) w') := by
  obtain ⟨v0, hv0, ⟨us, hul, hu, hown⟩, _⟩ := hI.obj r _ hr
  rw [hv] at hv0
  injection hv0 with hv0
  subst hv0
  have hE : ElsOk P G.H e E us := ⟨hul, hu⟩
  have hE' := hE.splice hF h hle
  have hl := Els.len_splice h hle
  refine ⟨fun h0 => ?_, fun hpos => ?_⟩
  · have hvs : vs = [] := List.eq_nil_of_length_eq_zero (by rw [hF.1, h0])
    subst hvs
    simp only [List.append_nil, List.length_nil, Nat.add_zero, List.take_append_drop] at hE'
    exact hI.putRow hr hv ⟨rfl, rfl, rfl, Nat.le_refl _⟩ (fun _ _ => rfl) ⟨us, hE'.1, hE'.2, by rw [hl]; exact hown⟩
  · have hslice : ∃ g n cap, v = .slice (some ⟨g, 0, none⟩) n cap := by
      rcases hown.2 with ⟨_, h0⟩ | ⟨g, cap, cur, h0, _⟩
      · omega
      · exact ⟨g, _, cap, h0⟩
    obtain ⟨g, n, cap, rfl⟩ := hslice
    have hfl : (flatV vs).length = F.len * sizeT P e := by rw [flatV_length hF.sz, hF.1]
    obtain ⟨cur, hg, hc, hst, hrow⟩ := RowOk.store hE hown hE' hl (lo * sizeT P e) (flatV vs) (by rw [hfl, ← Nat.add_mul]; exact Nat.mul_le_mul_right _ hle) hF.one (flatV_splice hE.sz hF.sz)
    exact ⟨g, n, cap, rfl, cur, hg, hc, _, rfl, hst, hI.putRow hr hv ⟨rfl, rfl, rfl, by simp⟩ (fun k hk => setRow_other w g k _ (fun e => hk (by simp [Value.ownBlock, e]))) hrow⟩

theorem set_eq_splice {α : Type} (l : List α) (i : Nat) (x : α) (h : i < l.length) : l.set i x = l.take i ++ [x] ++ l.drop (i + 1) := by
  induction l generalizing i with
  | nil => simp at h
  | cons y r ih =>
    cases i with
    | zero => simp
    | succ i => simp at h; simp [ih i h]
theorem Els.set_splice {E E' : Els} {i : Nat} {x : PV} (h : Els.set i x E = some E') (hi : i < E.len) : ∃ F, F.len = 1 ∧ F.at 0 = x ∧ Els.splice i F E = some E' := by
  cases E with
  | ints k l =>
    simp only [Els.set] at h
    split at h
    · split at h
      · rename_i k' n hk
        injection h with h
        subst h hk
        refine ⟨.ints k [n], rfl, rfl, ?_⟩
        simp only [Els.splice, if_true, Option.some.injEq, Els.ints.injEq, true_and]
        exact (set_eq_splice l i n hi).symm
      · cases h
    · cases h
  | els l =>
    simp only [Els.set, Option.some.injEq] at h
    subst h
    refine ⟨.els [x], rfl, rfl, ?_⟩
    simp only [Els.splice, Option.some.injEq, Els.els.injEq]
    exact (set_eq_splice l i x hi).symm
theorem sh_cells {H : Sharing} {x : PV} {v : Value} (h : Sh P H x v) : (cells x).length = v.cells.size ∧ ∀ (i : Nat) (y : PV) (u : Value), (cells x)[i]? = some y → v.cells[i]? = some u → Sh P H y u := by
  have single : ∀ {y : PV} {v : Value}, Sh P H y v → v.cells = #[v] → cells y = [y] → (cells y).length = v.cells.size ∧ ∀ (i : Nat) (z : PV) (u : Value), (cells y)[i]? = some z → v.cells[i]? = some u → Sh P H z u := by
    intro y v hy h1 h2
    rw [h1, h2]
    refine ⟨rfl, fun i z u hz hu => ?_⟩
    cases i with
    | zero => simp at hz hu; subst hz hu; exact hy
    | succ i => simp at hz
  cases h with
  | val v hf => exact single (.val v hf) (oneCell_cells (flat_oneCell hf)).1 rfl
  | sl e E A c f a1 a2 a3 a4 => exact single (.sl e E A c f a1 a2 a3 a4) rfl rfl
  | agg cs us hl h1 hS => exact ⟨hl.symm, hS⟩
  | spt t x b u hx hu => exact single (.spt t x b u hx hu) rfl rfl
  | clo f cs us hl hS => exact single (.clo f cs us hl hS) rfl rfl
  | smap t es b ens clk hb hl hk hv => exact single (.smap t es b ens clk hb hl hk hv) rfl rfl

/-- A store into a row. -/
theorem storeRE_run {t : TypeId} {r i off : Nat} {et : TypeId} {y : PV} {e : Eff} {v u : Value} (hI : InvM P W ps G m w) (h : storeRE P m t r i off et y = some e) (hc : e.chk = true) (hx : RV P G (.rptr r i off et) v) (hy : RV P G y u) :
    ∃ G' w', Ext G G' ∧ (Instr.storeAt t v u).run P w = .ok () w' ∧ InvM P W ps G' (applyAll m e.upd) w' ∧ e.v = .junk := by
  unfold storeRE at h
  split at h
  · rename_i e' E hr
    have h0 := (bif_some h).1
    replace h := (bif_some h).2
    simp only [Bool.and_eq_true, beq_iff_eq] at h0
    obtain ⟨hee, hso⟩ := h0
    subst hee
    split at h
    · rename_i z l hsh
      split at h
      · rename_i x' hpp
        split at h
        · rename_i E' hset
          have hnr := (bif_some h).1
          replace h := (bif_some h).2
          injection h with h
          subst h
          simp only [Nat.blt_eq] at hc
          have hnr : r ∉ l := by
            intro hm
            have := List.all_eq_true.1 hnr r hm
            simp at this
          obtain ⟨s1, s2, s3, _, _⟩ := sizeOk_spec hI hy hso
          obtain ⟨G', he, hI', hf, hfr, hns, hR, hB⟩ := hI.freezeAll l (share_alive hsh)
          have hz := share_sh hI hI' he hf hy hsh hfr
          have hr' : mget (applyAll m (freezes l)) r = some (.row et E, false) := (hns r hnr).trans hr
          obtain ⟨b, o, n, c, hGR, hin, rfl⟩ := hx.rptr_inv
          have hGR' : G'.R r = some (.slice (some ⟨b, o, none⟩) n c) := by rw [hR]; exact hGR
          obtain ⟨v0, hv0, ⟨us, hul, hu, hown⟩, _⟩ := hI'.obj r _ hr'
          rw [hGR'] at hv0
          injection hv0 with hv0
          subst hv0
          have ho : o = 0 := by
            rcases hown.2 with ⟨h0, _⟩ | ⟨g, cap, cur, h0, _⟩
            · cases h0
            · injection h0 with h0; injection h0 with h0; injection h0
          subst ho
          have hE : ElsOk P G'.H et E us := ⟨hul, hu⟩
          obtain ⟨F, hF1, hF0, hspl⟩ := Els.set_splice hset hc
          have hlt : i < us.length := by omega
          obtain ⟨uo, hui⟩ : ∃ uo, us[i]? = some uo := ⟨_, List.getElem?_eq_getElem hlt⟩
          obtain ⟨q1, q2, q3, q4⟩ := hu i _ hui
          have hzc := sh_cells hz
          -- the new element
          have hnew : ∃ u', Sh P G'.H x' u' ∧ u'.cells.size = sizeT P et ∧ aggV u' = isAgg P et ∧ (∀ x ∈ u'.cells, x.oneCell' = true) ∧ off + u.cells.size ≤ sizeT P et ∧
              u'.cells.toList = uo.cells.toList.take off ++ u.cells.toList ++ uo.cells.toList.drop (off + u.cells.size) := by
            rcases putPart_spec hpp with ⟨rfl, hn, hag, rfl⟩ | ⟨cs, hcs, hle, hcl, rfl⟩
            · refine ⟨u, hz, by rw [s1, hn], by rw [s2, hag], s3, by omega, ?_⟩
              rw [List.take_zero, List.nil_append, Nat.zero_add, List.drop_of_length_le (by rw [Array.length_toList, q2, s1, hn]; exact Nat.le_refl _), List.append_nil]
            · have hag : E.at i = .agg cs := by
                revert hcs q1
                generalize E.at i = p
                intro q1 hcs
                cases q1 <;> first | exact hcs | cases hcs
              rw [hag] at q1
              cases q1 with
              | agg _ ua hl h1 hS =>
                have hcu : (Value.agg ua).cells = ua := rfl
                rw [hcu] at q2 q4 ⊢
                refine ⟨.agg (ua.toList.take off ++ u.cells.toList ++ ua.toList.drop (off + sizeT P t)).toArray, .agg _ _ ?_ ?_ ?_, ?_, by rw [← q3]; rfl, ?_, by omega, by rw [s1]; rfl⟩
                · simp only [List.size_toArray, List.length_append, List.length_take, List.length_drop, Array.length_toList, s1]; omega
                · intro p hp
                  simp only [List.mem_toArray, List.mem_append] at hp
                  rcases hp with (hp | hp) | hp
                  · exact h1 p (Array.mem_toList_iff.1 (List.mem_of_mem_take hp))
                  · exact s3 p (Array.mem_toList_iff.1 hp)
                  · exact h1 p (Array.mem_toList_iff.1 (List.mem_of_mem_drop hp))
                · intro j x u' hx' hu'
                  refine splice_rel (R := Sh P G'.H) (us := ua.toList) (vs := u.cells.toList) (by rw [Array.length_toList]; exact hl) hcl (by rw [Array.length_toList, s1]) hle
                    (fun j x u hx hu => hS j x u hx (by simpa using hu)) (fun j x u hx hu => hzc.2 j x u hx (by simpa using hu)) j x u' hx' (by simpa using hu')
                · show (ua.toList.take off ++ u.cells.toList ++ ua.toList.drop (off + sizeT P t)).toArray.size = sizeT P et
                  simp only [List.size_toArray, List.length_append, List.length_take, List.length_drop, Array.length_toList, s1]; omega
                · intro p hp
                  have hp : p ∈ (ua.toList.take off ++ u.cells.toList ++ ua.toList.drop (off + sizeT P t)).toArray := hp
                  simp only [List.mem_toArray, List.mem_append] at hp
                  rcases hp with (hp | hp) | hp
                  · exact h1 p (Array.mem_toList_iff.1 (List.mem_of_mem_take hp))
                  · exact s3 p (Array.mem_toList_iff.1 hp)
                  · exact h1 p (Array.mem_toList_iff.1 (List.mem_of_mem_drop hp))
          obtain ⟨u', n1, n2, n3, n4, n5, n6⟩ := hnew
          have hFok : ElsOk P G'.H et F [u'] := ⟨by rw [hF1]; rfl, fun j q hj => by
            cases j with
            | zero => simp only [List.getElem?_cons_zero, Option.some.injEq] at hj; subst hj; rw [hF0]; exact ⟨n1, n2, n3, n4⟩
            | succ j => simp at hj⟩
          have hle : i + F.len ≤ E.len := by omega
          have hE' := hE.splice hFok hspl hle
          have hfl : (flatV us).length = E.len * sizeT P et := by rw [flatV_length hE.sz, hE.1]
          have hseg : ((flatV us).drop (i * sizeT P et)).take (sizeT P et) = uo.cells.toList := by
            rw [flatV_drop hE.sz, List.drop_eq_getElem_cons hlt, flatV_cons, show us[i] = uo from (List.getElem?_eq_some_iff.1 hui).2]
            rw [← q2, ← Array.length_toList]
            exact List.take_left
          have hmul : (i + 1) * sizeT P et ≤ E.len * sizeT P et := Nat.mul_le_mul_right _ (by omega)
          have hsucc : (i + 1) * sizeT P et = i * sizeT P et + sizeT P et := by rw [Nat.add_mul]; omega
          have hflat : flatV (us.take i ++ [u'] ++ us.drop (i + [u'].length)) = (flatV us).take (i * sizeT P et + off) ++ u.cells.toList ++ (flatV us).drop (i * sizeT P et + off + u.cells.toList.length) := by
            rw [flatV_splice hE.sz hFok.sz, show flatV [u'] = u'.cells.toList from by simp [flatV], n6, ← hseg]
            generalize flatV us = L at *
            generalize i * sizeT P et = a at *
            generalize sizeT P et = s at *
            have hcl : u.cells.toList.length = u.cells.size := Array.length_toList
            generalize u.cells.toList = cs at *
            have hLen : a + s ≤ L.length := by omega
            have e1 : L.take (a + off) = L.take a ++ ((L.drop a).take s).take off := by
              rw [List.take_take, Nat.min_eq_left (by omega), List.take_add]
            have e2 : L.drop (a + off + cs.length) = ((L.drop a).take s).drop (off + u.cells.size) ++ L.drop (a + s) := by
              have : L.drop a = (L.drop a).take s ++ L.drop (a + s) := by
                rw [← List.drop_drop, List.take_append_drop]
              rw [Nat.add_assoc, ← List.drop_drop, this, hcl]
              rw [List.drop_append_of_le_length (by rw [List.length_take, List.length_drop]; omega)]
              congr 2
              rw [← this]
            rw [e1, e2]
            have e3 : (((L.drop a).take s).take off ++ cs ++ ((L.drop a).take s).drop (off + u.cells.size)).length = s := by
              simp only [List.length_append, List.length_take, List.length_drop, hcl]; omega
            rw [e3]
            simp only [List.append_assoc]
          obtain ⟨cur, hg, hcz, hst, hrow⟩ := RowOk.store (w := w) hE hown hE' (Els.len_splice hspl hle) (i * sizeT P et + off) u.cells.toList (by rw [Array.length_toList]; omega) (by simpa using s3) hflat
          have hinf : ∃ inf, P.info? t = some inf := by
            cases hi : P.info? t with
            | some inf => exact ⟨inf, rfl⟩
            | none =>
              exfalso
              have h0 : sizeT P t = 0 := by simp [sizeT, hi]
              have ha : isAgg P t = false := by
                cases hu : P.underlying t with
                | none => simp [isAgg, hu]
                | some d => obtain ⟨i, hi'⟩ := info_of_underlying hu; rw [hi] at hi'; cases hi'
              rw [ha] at s2
              rw [h0] at s1
              cases u <;> first | (simp [Value.cells] at s1; done) | cases s2
          obtain ⟨inf, hinf⟩ := hinf
          refine ⟨G', w.setRow b (cur.toList.take (i * sizeT P et + off) ++ u.cells.toList ++ cur.toList.drop (i * sizeT P et + off + u.cells.toList.length)).toArray, he, ?_, ?_, rfl⟩
          · simp only [Instr.storeAt, Instr.sureAddr, storeVar, Sem.run_bind, Sem.run_pure, Result.andThen_ok, run_sizeOf' w hinf, s1, Nat.zero_add]
            simp only [ne_eq, not_true_eq_false, if_false]
            exact hst
          · rw [applyAll_append, applyAll_cons, applyAll_nil]
            simp only [applyUpd, hr']
            exact hI'.putRow hr' hGR' ⟨rfl, rfl, rfl, by simp⟩ (fun k hk => setRow_other w b k _ (fun e => hk (by simp [Value.ownBlock, e]))) hrow
        · cases h
      · cases h
    · cases h
  · cases h

/-! ### copy, clear -/
theorem firstCells_reads {e : TypeId} {size : Nat} {E : Els} {v : Value} {H : Sharing} (hv : Reads P H w e E v) (hsz : sizeT P e = size) (q : Nat) (hq : q ≤ E.len) :
    ∃ A c vs, v = .slice A E.len c ∧ ElsOk P H e (E.cut 0 q) vs ∧ vs.length = q ∧ (Builtin.firstCells size q v).run P w = .ok (flatV vs).toArray w := by
  obtain ⟨A, c, us, rfl, hc, hm, hok, hA⟩ := hv
  have hcut := hok.cut 0 q hq
  rw [List.drop_zero] at hcut
  have hl : (us.take q).length = q := by rw [List.length_take, hok.1]; omega
  refine ⟨A, c, us.take q, rfl, hcut, hl, ?_⟩
  have hfl : (flatV (us.take q)).length = q * size := by rw [flatV_length hcut.sz, hl, hsz]
  rcases Nat.eq_zero_or_pos q with h0 | h0
  · subst h0
    have : flatV (us.take 0) = [] := by simp [flatV]
    rw [this]
    cases A with
    | none => exact run_firstCells_none _ _ _ _ _
    | some a => exact run_firstCells_some (P := P) w size 0 a _ c [] (by simp) (by simp)
  · obtain ⟨b, o, rfl, hcell⟩ := hA (by omega)
    refine run_firstCells_some (P := P) w size q ⟨b, o, none⟩ _ c (flatV (us.take q)) hfl fun j x hj => ?_
    rw [Addr.add_lit]
    refine hcell j x ?_
    rw [← flatV_take hok.sz, List.getElem?_take] at hj
    split at hj
    · exact hj
    · cases hj
theorem run_copy_pm {dT sT ty elem : TypeId} (hu : P.underlying dT = some (.slice elem)) {i : TypeInfo} (hi : P.info? elem = some i) {A : Option Addr} {dLen dCap : Nat} {v : Value} {sLen sCap : Nat} {B : Option Addr} (hv : v = .slice B sLen sCap) {cs : List Value} {w' : World}
    (hc : (Builtin.firstCells (sizeT P elem) (min sLen dLen) v).run P w = .ok cs.toArray w) (hst : ∀ a, A = some a → (storeCells a cs).run P w = .ok () w') (hn : A = none → w' = w) :
    (Builtin.copy_ #[dT, sT] ty #[.slice A dLen dCap, v]).run P w = .ok (.int .i64 (min sLen dLen : Nat)) w' := by
  subst hv
  have hsz : i.size = sizeT P elem := by simp [sizeT, hi]
  have hc' : (Builtin.firstCells i.size (Nat.min sLen dLen) (.slice B sLen sCap)).run P w = .ok cs.toArray w := by rw [hsz]; exact hc
  cases A with
  | none =>
    rw [hn rfl]
    simp [Builtin.copy_, run_underlying hu, Builtin.lenOf, sizeOf, typeInfo, hi, hc']
    rfl
  | some a =>
    simp [Builtin.copy_, run_underlying hu, Builtin.lenOf, sizeOf, typeInfo, hi, hc', hst a rfl]
    rfl

/-- A part of a row, as a slice value. -/
theorem rowRange_spec (hI : InvM P W ps G m w) {x : PV} {v : Value} {r lo hi : Nat} {e : TypeId} {E : Els} (h : rowRange m x = some (r, lo, hi, e, E)) (hx : RV P G x v) :
    ∃ v0 A c, mget m r = some (.row e E, false) ∧ G.R r = some v0 ∧ v = .slice A (hi - lo) c ∧ lo ≤ hi ∧ hi ≤ E.len ∧ (lo < hi → ∀ g n cap, v0 = .slice (some ⟨g, 0, none⟩) n cap → A = some ⟨g, lo * sizeT P e, none⟩) := by
  unfold rowRange at h
  split at h
  · rename_i r'
    split at h
    · rename_i e' E' hr
      simp only [Option.some.injEq, Prod.mk.injEq] at h
      obtain ⟨rfl, rfl, rfl, rfl, rfl⟩ := h
      have hv := hx.ref_inv
      obtain ⟨v0, hv0, A, c, us, hsl, _⟩ := hI.row hr
      rw [hv] at hv0
      injection hv0 with hv0
      subst hv0
      subst hsl
      refine ⟨_, A, c, hr, hv, rfl, Nat.zero_le _, Nat.le_refl _, fun _ g n cap h0 => ?_⟩
      injection h0 with h0
      rw [Nat.zero_mul]; exact h0
    · cases h
  · rename_i r' lo' hi' e'
    split at h
    · rename_i e'' E' hr
      have hee := beq_iff_eq.1 (bif_some h).1
      replace h := (bif_some h).2
      simp only [Option.some.injEq, Prod.mk.injEq] at h
      obtain ⟨rfl, rfl, rfl, rfl, rfl⟩ := h
      subst hee
      cases hx with
      | sh h => cases h
      | win _ _ _ _ A A' n c c' hR h1 h2 h3 h4 hA h5 =>
        obtain ⟨v0, hv0, A0, c0, us, hsl, _⟩ := hI.row hr
        rw [hR] at hv0
        injection hv0 with hv0
        subst hv0
        injection hsl with q1 q2 q3
        refine ⟨_, A', c', hr, hR, rfl, h1, by omega, fun hlt g n' cap h0 => ?_⟩
        injection h0 with h0
        rw [hA hlt, h0]
        simp only [Option.map_some, Option.some.injEq, Addr.add_lit, Nat.zero_add]
    · cases h
  · cases h

theorem fillE_cases {e : TypeId} {x : PV} {F : Nat → Option (Els × List Nat × PV)} {eff : Eff} (h : fillE m e x F = some eff) :
    ∃ r lo hi E G l v E', rowRange m x = some (r, lo, hi, e, E) ∧ F (hi - lo) = some (G, l, v) ∧ Els.splice lo G E = some E' ∧ eff = { v := v, reads := (r, true) :: reads l, upd := [(r, .cont (.row e E'))] } := by
  unfold fillE at h
  split at h
  · rename_i r lo hi e' E hr
    have hee := beq_iff_eq.1 (bif_some h).1
    replace h := (bif_some h).2
    subst hee
    split at h
    · rename_i G l v hF
      split at h
      · rename_i E' hs
        injection h with h
        exact ⟨r, lo, hi, E, G, l, v, E', hr, hF, hs, h.symm⟩
      · cases h
    · cases h
  · cases h

theorem ints_us {H : Sharing} {e : TypeId} {k : IntKind} {l : List Int} {us : List Value} (h : ElsOk P H e (.ints k l) us) : us = l.map (.int k) := by
  apply List.ext_getElem?
  intro i
  rw [List.getElem?_map]
  have hl : us.length = l.length := h.1
  by_cases hi : i < us.length
  · obtain ⟨u, h1⟩ : ∃ u, us[i]? = some u := ⟨_, List.getElem?_eq_getElem hi⟩
    have h2 := (h.2 i _ h1).1
    obtain ⟨z, hz⟩ : ∃ z, l[i]? = some z := ⟨_, List.getElem?_eq_getElem (by omega)⟩
    rw [Els.at, List.getD_eq_getElem?_getD, hz] at h2
    rw [h1, hz]
    cases h2
    rfl
  · rw [List.getElem?_eq_none (by omega), List.getElem?_eq_none (by omega)]; rfl

theorem copyE_run {t sT : TypeId} {x y : PV} {e : Eff} {v u : Value} (ty : TypeId) (hI : InvM P W ps G m w) (h : copyE P m t x y = some e) (hx : RV P G x v) (hy : RV P G y u) (hinf : ∀ d, P.underlying t = some (.slice d) → (P.info? d).isSome = true) :
    ∃ r w', (Builtin.copy_ #[t, sT] ty #[v, u]).run P w = .ok r w' ∧ Done P W ps G m e r w' ∧ e.chk = true := by
  unfold copyE at h
  split at h
  · rename_i et hu
    obtain ⟨inf, hin⟩ := Option.isSome_iff_exists.1 (hinf et hu)
    split at h
    · rename_i F l hs
      have hsrc := srcE_run hI hs hy
      split at h
      · rename_i k off n e'
        split at h
        · rename_i bt x0 hk
          split at h
          · rename_i cs kk zs hde
            have hg := (bif_some h).1
            replace h := (bif_some h).2
            injection h with h
            subst h
            simp only [Bool.and_eq_true, beq_iff_eq] at hg
            obtain ⟨hee, hle⟩ := hg
            have hle := Nat.le_of_ble_eq_true hle
            subst hee
            cases hx with
            | sh h => cases h
            | bsl _ _ _ _ b off' hB hc h1 h2 ho =>
              obtain ⟨A, c, vs, rfl, hok, hvl, hfc⟩ := firstCells_reads hsrc rfl (min zs.length n) (Nat.min_le_left _ _)
              have hvs := ints_us hok
              have hEl : (Els.ints kk zs).len = zs.length := rfl
              have hcut : ((zs.take (min zs.length n)).drop 0) = zs.take n := by
                rw [List.drop_zero]
                rcases Nat.le_total zs.length n with h | h
                · rw [Nat.min_eq_left h, List.take_length, List.take_of_length_le h]
                · rw [Nat.min_eq_right h]
              rw [hcut] at hvs
              have hfv : flatV vs = (zs.take n).map (.int kk) := by rw [hvs, flatV_ints]
              obtain ⟨b', hb', ⟨q, q1, q2, q3, q4, q5⟩, hq6⟩ : ∃ b, G.B k = some b ∧ BoxOk P G w bt x0 b ∧ _ := hI.obj k _ hk
              rw [hB] at hb'
              injection hb' with hb'
              subst hb'
              have hx' := q1.de
              rw [hde] at hx'
              obtain ⟨us, rfl, hul, hu1, hS⟩ := hx'.agg_inv
              have hcu : (Value.agg us).cells = us := rfl
              rw [hcu] at q2 q4 q5
              have hlen : ((zs.take n).map (Value.int kk)).length = min zs.length n := by rw [List.length_map, List.length_take, Nat.min_comm]
              have hone : ∀ u ∈ (zs.take n).map (Value.int kk), u.oneCell' = true := by
                intro u hu
                obtain ⟨z, _, rfl⟩ := List.mem_map.1 hu
                rfl
              have hoff : 0 < min zs.length n → off' = off := fun h0 => ho (by omega)
              -- the world behind it
              have hst : (storeCells ⟨b, off', none⟩ ((zs.take n).map (Value.int kk))).run P w = .ok () (w.setRow b (us.toList.take off ++ (zs.take n).map (Value.int kk) ++ us.toList.drop (off + min zs.length n)).toArray) := by
                rcases Nat.eq_zero_or_pos (min zs.length n) with h0 | h0
                · have hnil : (zs.take n).map (Value.int kk) = [] := List.eq_nil_of_length_eq_zero (by rw [hlen, h0])
                  rw [hnil, h0, Nat.add_zero, List.append_nil, List.take_append_drop, Array.toArray_toList, setRow_self w b us bt (0, 0) q5]
                  rfl
                · rw [hoff h0]
                  have := run_storeCells_at P b off bt ((zs.take n).map (Value.int kk)) 0 us w q5 (by rw [hlen]; omega) hone
                  simp only [Nat.add_zero, hlen] at this
                  exact this
              refine ⟨.int .i64 (min zs.length n : Nat), _, run_copy_pm hu hin rfl (by rw [hEl]; exact hfv ▸ hfc) (w' := w.setRow b (us.toList.take off ++ (zs.take n).map (Value.int kk) ++ us.toList.drop (off + min zs.length n)).toArray) (fun a ha => by injection ha with ha; subst ha; exact hst) (fun h => by cases h), ?_, rfl⟩
              refine ⟨G, Ext.refl G, ?_, .ofVal rfl⟩
              simp only [applyAll_cons, applyAll_nil, applyUpd, hk]
              refine hI.setBox hk hB ⟨rfl, rfl, rfl, by simp⟩ (fun g hg => setRow_other w b g _ hg) ?_
              have hnew := setRow_heap w b us (us.toList.take off ++ (zs.take n).map (Value.int kk) ++ us.toList.drop (off + min zs.length n)).toArray bt (0, 0) q5
              refine ⟨.agg (us.toList.take off ++ (zs.take n).map (Value.int kk) ++ us.toList.drop (off + min zs.length n)).toArray, .agg _ _ ?_ ?_ ?_, ?_, by rw [← q3]; rfl, ?_, hnew⟩
              · simp only [List.size_toArray, List.length_append, List.length_take, List.length_drop, List.length_map, Array.length_toList, hul]
              · intro p hp
                simp only [List.mem_toArray, List.mem_append] at hp
                rcases hp with (hp | hp) | hp
                · exact hu1 p (Array.mem_toList_iff.1 (List.mem_of_mem_take hp))
                · exact hone p hp
                · exact hu1 p (Array.mem_toList_iff.1 (List.mem_of_mem_drop hp))
              · intro j x u' hx' hu'
                refine splice_rel (R := RV P G) (us := us.toList) (vs := (zs.take n).map (Value.int kk)) (n := min zs.length n) (by rw [Array.length_toList]; exact hul) (by rw [List.length_map, List.length_take, Nat.min_comm]) hlen (by omega)
                  (fun j x u hx hu => hS j x u hx (by simpa using hu)) (fun j x u hx hu => ?_) j x u' hx' (by simpa using hu')
                rw [List.getElem?_map] at hx hu
                obtain ⟨z, hz, rfl⟩ := Option.map_eq_some_iff.1 hx
                rw [hz] at hu
                injection hu with hu
                subst hu
                exact .ofVal rfl
              · show (us.toList.take off ++ (zs.take n).map (Value.int kk) ++ us.toList.drop (off + min zs.length n)).toArray.size = sizeT P bt
                rw [← q2]
                simp only [List.size_toArray, List.length_append, List.length_take, List.length_drop, List.length_map, Array.length_toList]
                omega
              · intro p hp
                have hp : p ∈ (us.toList.take off ++ (zs.take n).map (Value.int kk) ++ us.toList.drop (off + min zs.length n)).toArray := hp
                simp only [List.mem_toArray, List.mem_append] at hp
                rcases hp with (hp | hp) | hp
                · exact hu1 p (Array.mem_toList_iff.1 (List.mem_of_mem_take hp))
                · exact hone p hp
                · exact hu1 p (Array.mem_toList_iff.1 (List.mem_of_mem_drop hp))
          · cases h
        · cases h
      · obtain ⟨r, lo, hi, E, GE, l', v', E', hr, hF, hsp, rfl⟩ := fillE_cases h
        simp only [Option.some.injEq, Prod.mk.injEq] at hF
        obtain ⟨rfl, rfl, rfl⟩ := hF
        obtain ⟨v0, A, c, hmr, hGR, rfl, hlo, hhi, hA⟩ := rowRange_spec hI hr hx
        obtain ⟨B, cB, vs, rfl, hok, hvl, hfc⟩ := firstCells_reads hsrc rfl (min F.len (hi - lo)) (Nat.min_le_left _ _)
        have hcl : (F.cut 0 (min F.len (hi - lo))).len = min F.len (hi - lo) := by rw [Els.len_cut _ _ _ (Nat.min_le_left _ _)]; rfl
        obtain ⟨s0, s1⟩ := splice_run hI hmr hGR hok hsp (by rw [hcl]; omega)
        have fin : ∀ {rd} w', InvM P W ps G (mset m r (.row et E', false)) w' → Done P W ps G m { v := .val (.int .i64 (min F.len (hi - lo) : Nat)), reads := rd, upd := [(r, .cont (.row et E'))] } (.int .i64 (min F.len (hi - lo) : Nat)) w' := by
          intro rd w' hI'
          refine ⟨G, Ext.refl G, ?_, .ofVal rfl⟩
          simp only [applyAll_cons, applyAll_nil, applyUpd, hmr]
          exact hI'
        rcases Nat.eq_zero_or_pos (min F.len (hi - lo)) with h0 | h0
        · have hvs : vs = [] := List.eq_nil_of_length_eq_zero (by rw [hvl, h0])
          subst hvs
          exact ⟨_, w, run_copy_pm hu hin rfl hfc (fun a _ => rfl) (fun _ => rfl), fin w (s0 (by rw [hcl, h0])), rfl⟩
        · obtain ⟨g, n, cap, rfl, cur, hg, hcz, w', rfl, hst, hI'⟩ := s1 (by rw [hcl]; exact h0)
          have hA' := hA (by omega) g n cap rfl
          exact ⟨_, _, run_copy_pm hu hin rfl hfc (fun a ha => by rw [hA'] at ha; injection ha with ha; subst ha; exact hst) (fun h => by rw [hA'] at h; cases h), fin _ hI', rfl⟩
    · cases h
  · cases h

theorem clearE_run {t : TypeId} {x : PV} {e : Eff} {v : Value} (ty : TypeId) (hI : InvM P W ps G m w) (h : clearE P m t x = some e) (hx : RV P G x v) :
    ∃ r w', (Builtin.clear_ #[t] ty #[v]).run P w = .ok r w' ∧ Done P W ps G m e r w' ∧ e.chk = true := by
  unfold clearE at h
  split at h
  · rename_i et hu
    have tup0 : RV P G (.tup []) (.tuple #[]) := .tup [] #[] rfl (fun i x u h => by simp at h)
    split at h
    · injection h with h
      subst h
      obtain ⟨rfl, _⟩ := hx.val_inv
      refine ⟨.tuple #[], w, ?_, ⟨G, Ext.refl G, hI, tup0⟩, rfl⟩
      simp [Builtin.clear_, run_underlying hu]
    · obtain ⟨r, lo, hi, E, GE, l', v', E', hr, hF, hsp, rfl⟩ := fillE_cases h
      obtain ⟨F, hz, hF⟩ := Option.map_eq_some_iff.1 hF
      simp only [Prod.mk.injEq] at hF
      obtain ⟨rfl, rfl, rfl⟩ := hF
      obtain ⟨v0, A, c, hmr, hGR, rfl, hlo, hhi, hA⟩ := rowRange_spec hI hr hx
      obtain ⟨hg, i, z, hinf, hzz, hsz, hby, hzs, h0, hb0, hone, hFl, hFok⟩ := zeroEls_spec hz
      obtain ⟨s0, s1⟩ := splice_run hI hmr hGR (hFok G.H) hsp (by rw [hFl]; omega)
      have fin : ∀ w', InvM P W ps G (mset m r (.row et E', false)) w' → Done P W ps G m { v := .tup [], reads := (r, true) :: reads [], upd := [(r, .cont (.row et E'))] } (.tuple #[]) w' := by
        intro w' hI'
        refine ⟨G, Ext.refl G, ?_, tup0⟩
        simp only [applyAll_cons, applyAll_nil, applyUpd, hmr]
        exact hI'
      rcases Nat.eq_zero_or_pos (hi - lo) with hn | hn
      · refine ⟨.tuple #[], w, ?_, fin w (s0 (by rw [hFl, hn])), rfl⟩
        rw [hn]
        cases A <;> simp [Builtin.clear_, run_underlying hu]
      · obtain ⟨g, n, cap, rfl, cur, hgc, hcz, w', rfl, hst, hI'⟩ := s1 (by rw [hFl]; exact hn)
        have hA' := hA (Nat.lt_of_sub_pos hn) g n cap rfl
        subst hA'
        obtain ⟨q, hq⟩ : ∃ q, hi - lo = q + 1 := ⟨hi - lo - 1, (Nat.succ_pred_eq_of_pos hn).symm⟩
        refine ⟨.tuple #[], _, ?_, fin _ hI', rfl⟩
        have hzc := zeroCells_flat z (hi - lo)
        rw [hq] at hzc hst ⊢
        simp [Builtin.clear_, run_underlying hu, zeroValue, typeInfo, hinf, hzz, hzc, hst]
  · cases h

end
end Go.Pm

/- Maps: what their operations come to. -/
namespace Go.Pm
open Go.RowKit

section
variable {P : Program} {W : World} {ps : List Nat} {G : Ghost} {m : Mem} {w : World}

theorem getMap_run {r : Nat} {es : Array MapEntry} {clock : Nat} (hb : w.heap[r]? = some (.map es clock)) : (getObj r).run P w = .ok (.map es clock) w := by
  simp [getObj, Sem.run, hb]
theorem setMap_run {r : Nat} {es : Array MapEntry} {clock : Nat} {o : Obj} (hb : w.heap[r]? = some (.map es clock)) : (setObj r o).run P w = .ok () { w with heap := w.heap.setIfInBounds r o } := by
  simp [setObj, Sem.run, hb]
theorem checkKey_run (em : Bool) : ∀ (n : Nat) (t : TypeId) (x y : PV) (b : Bool) (vx : Value) (w : World) (k : Nat), eqPV P n t x y = some b → RV P G x vx → (Instr.checkKey em (n + k) t vx).run P w = .ok () w := by
  intro n
  induction n with
  | zero => intro t x y b vx w k h; simp [eqPV] at h
  | succ n ih =>
    intro t x y b vx w k h hx
    rw [Nat.add_right_comm]
    unfold eqPV at h
    split at h
    · rename_i k0 a k' b' hu
      obtain ⟨rfl, _⟩ := hx.val_inv
      simp [Instr.checkKey, run_underlying hu]
    · rename_i a b' hu
      obtain ⟨rfl, _⟩ := hx.val_inv
      simp [Instr.checkKey, run_underlying hu]
    · rename_i a b' hu
      obtain ⟨rfl, _⟩ := hx.val_inv
      simp [Instr.checkKey, run_underlying hu]
    · rename_i fs xs ys hu
      obtain ⟨us, rfl, hl, h1, hS⟩ := hx.agg_inv
      cases hst : P.stoodInHeld t with
      | true => rw [hst] at h; cases h
      | false =>
        rw [hst, cond_false] at h
        simp only [Instr.checkKey, Sem.run_bind, run_underlying hu, Result.andThen_ok]
        rw [← Array.forIn_toList]
        clear hu
        generalize fs.toList = l at h ⊢
        induction l generalizing b with
        | nil => simp
        | cons f l ihl =>
          unfold eqFlds at h
          cases hn : f.name == "_" with
          | true => rw [hn] at h; cases h
          | false =>
            rw [hn, cond_false] at h
            split at h
            · rename_i p q hp hq
              split at h
              · rename_i c d hc hd
                have hund : P.underlying f.type ≠ none := by
                  intro he
                  cases n with
                  | zero => simp [eqPV] at hc
                  | succ n => unfold eqPV at hc; simp [he] at hc
                obtain ⟨u, hu1, hu2⟩ := part_run (G := G) w hl h1 hS hund hp
                have he := ih f.type p q c u w k hc hu2
                have hn' : f.name ≠ "_" := by simpa using hn
                simp only [List.forIn_cons, Sem.run_bind, if_pos hn', hu1, he, Result.andThen_ok, Sem.run_pure]
                exact ihl d hd
              · cases h
            · cases h
    · rename_i kk e xs ys hu
      obtain ⟨us, rfl, hl, h1, hS⟩ := hx.agg_inv
      cases hinf : P.info? e with
      | none => rw [hinf] at h; cases h
      | some i =>
        rw [hinf, Option.isSome_some, cond_true] at h
        simp only [Instr.checkKey, Sem.run_bind, run_underlying hu, Result.andThen_ok]
        rw [Std.Legacy.Range.forIn_eq_forIn_range']
        simp only [Std.Legacy.Range.size, Nat.sub_zero, Nat.add_sub_cancel, Nat.div_one]
        rw [List.range_eq_range'] at h
        generalize List.range' 0 kk 1 = l at h ⊢
        induction l generalizing b with
        | nil => simp
        | cons j l ihl =>
          unfold eqArr at h
          split at h
          · rename_i p q hp hq
            split at h
            · rename_i c d hc hd
              have hund : P.underlying e ≠ none := by
                intro he
                cases n with
                | zero => simp [eqPV] at hc
                | succ n => unfold eqPV at hc; simp [he] at hc
              obtain ⟨u, hu1, hu2⟩ := part_run (G := G) w hl h1 hS hund hp
              have he := ih e p q c u w k hc hu2
              simp only [List.forIn_cons, Sem.run_bind, run_sizeOf' w hinf, hu1, he, Result.andThen_ok, Sem.run_pure]
              exact ihl d hd
            · cases h
          · cases h
    · cases h

/-- What is found under a key. -/
inductive Found (P : Program) (kt : TypeId) (k : PV) : List (PV × PV) → Option (Nat × PV) → Prop where
  | nil : Found P kt k [] none
  | here (k' v : PV) (r : List (PV × PV)) (h : eqPV P 64 kt k k' = some true) : Found P kt k ((k', v) :: r) (some (0, v))
  | there (k' v : PV) (r : List (PV × PV)) (o : Option (Nat × PV)) (h : eqPV P 64 kt k k' = some false) (hr : Found P kt k r o) : Found P kt k ((k', v) :: r) (o.map fun q => (q.1 + 1, q.2))

theorem Found.at {kt : TypeId} {k : PV} {es : List (PV × PV)} {q : Option (Nat × PV)} (h : Found P kt k es q) : ∀ {j : Nat} {v : PV}, q = some (j, v) → ∃ k1, es[j]? = some (k1, v) := by
  induction h with
  | nil => intro j v h; cases h
  | here k1 v2 r h =>
    intro j v hq
    simp only [Option.some.injEq, Prod.mk.injEq] at hq
    obtain ⟨rfl, rfl⟩ := hq
    exact ⟨k1, rfl⟩
  | there k1 v2 r o h hr ih =>
    intro j v hq
    cases o with
    | none => cases hq
    | some o =>
      simp only [Option.map_some, Option.some.injEq, Prod.mk.injEq] at hq
      obtain ⟨rfl, rfl⟩ := hq
      obtain ⟨k2, hk2⟩ := ih rfl
      exact ⟨k2, by simpa using hk2⟩
theorem mlook_found {kt : TypeId} {k : PV} : ∀ {es : List (PV × PV)} {o : Option PV}, mlook P kt k es = some o → ∃ q, Found P kt k es q ∧ o = q.map (·.2)
  | [], o, h => by
    simp only [mlook, Option.some.injEq] at h
    subst h
    exact ⟨none, .nil, rfl⟩
  | (k', v) :: r, o, h => by
    simp only [mlook] at h
    split at h
    · rename_i b hb
      cases b with
      | true =>
        simp only [cond_true, Option.some.injEq] at h
        subst h
        exact ⟨_, .here k' v r hb, rfl⟩
      | false =>
        rw [cond_false] at h
        obtain ⟨q, hq, rfl⟩ := mlook_found h
        exact ⟨_, .there k' v r q hb hq, by cases q <;> rfl⟩
    · cases h
theorem mput_found {kt : TypeId} {k x : PV} : ∀ {es es' : List (PV × PV)}, mput P kt k x es = some es' → ∃ q, Found P kt k es q ∧
    ((q = none ∧ es' = es ++ [(k, x)]) ∨ ∃ i v k', q = some (i, v) ∧ es[i]? = some (k', v) ∧ sameKey k' k = true ∧ es' = es.set i (k, x))
  | [], es', h => by
    simp only [mput, Option.some.injEq] at h
    subst h
    exact ⟨none, .nil, .inl ⟨rfl, rfl⟩⟩
  | (k', v) :: r, es', h => by
    simp only [mput] at h
    split at h
    · rename_i b hb
      cases b with
      | true =>
        rw [cond_true] at h
        have hs := (bif_some h).1
        replace h := (bif_some h).2
        injection h with h
        subst h
        exact ⟨_, .here k' v r hb, .inr ⟨0, v, k', rfl, rfl, hs, rfl⟩⟩
      | false =>
        rw [cond_false] at h
        obtain ⟨r', hr, rfl⟩ := Option.map_eq_some_iff.1 h
        obtain ⟨q, hq, h1⟩ := mput_found hr
        refine ⟨_, .there k' v r q hb hq, ?_⟩
        rcases h1 with ⟨rfl, rfl⟩ | ⟨i, v1, k1, rfl, h2, h3, rfl⟩
        · exact .inl ⟨rfl, rfl⟩
        · exact .inr ⟨i + 1, v1, k1, rfl, by simpa using h2, h3, rfl⟩
    · cases h

/-- The entries of a map, and what they are. -/
def EntsOk (P : Program) (H : Sharing) (es : List (PV × PV)) (ens : List MapEntry) : Prop :=
  ens.length = es.length ∧ ∀ (i : Nat) (x : PV × PV) (u : MapEntry), es[i]? = some x → ens[i]? = some u → Sh P H x.1 u.key ∧ Sh P H x.2 u.val
theorem EntsOk.tail {H : Sharing} {x : PV × PV} {es : List (PV × PV)} {u : MapEntry} {ens : List MapEntry} (h : EntsOk P H (x :: es) (u :: ens)) : EntsOk P H es ens :=
  ⟨by have := h.1; simpa using this, fun i y v hy hv => h.2 (i + 1) y v (by simpa using hy) (by simpa using hv)⟩

theorem findAsking_run {kt : TypeId} {k : PV} {kv : Value} (hk : RV P G k kv) : ∀ {es : List (PV × PV)} {q : Option (Nat × PV)}, Found P kt k es q → ∀ {ens : List MapEntry} (i : Nat), EntsOk P G.H es ens →
    ∃ r, (Instr.findAsking kt kv ens i).run P w = .ok r w ∧ (q = none → r = none) ∧ ∀ j v, q = some (j, v) → ∃ u, ens[j]? = some u ∧ r = some (i + j, u.val) := by
  intro es q h
  induction h with
  | nil =>
    intro ens i ho
    have : ens = [] := List.eq_nil_of_length_eq_zero (by simpa using ho.1)
    subst this
    exact ⟨none, rfl, fun _ => rfl, (fun j v h => by cases h)⟩
  | here k' v r h =>
    intro ens i ho
    cases ens with
    | nil => have := ho.1; simp at this
    | cons u ens =>
      have h0 := ho.2 0 (k', v) u rfl rfl
      have he : (Op.equal kt kv u.key).run P w = .ok true w := eq_run 64 kt k k' true kv u.key w 9936 h hk (.sh h0.1)
      refine ⟨some (i, u.val), ?_, (fun h => by cases h), fun j v' hq => ?_⟩
      · simp only [Instr.findAsking, Sem.run_bind, he, Result.andThen_ok, if_true]; rfl
      · simp only [Option.some.injEq, Prod.mk.injEq] at hq
        obtain ⟨rfl, rfl⟩ := hq
        exact ⟨u, rfl, rfl⟩
  | there k' v r o h hr ih =>
    intro ens i ho
    cases ens with
    | nil => have := ho.1; simp at this
    | cons u ens =>
      have h0 := ho.2 0 (k', v) u rfl rfl
      have he : (Op.equal kt kv u.key).run P w = .ok false w := eq_run 64 kt k k' false kv u.key w 9936 h hk (.sh h0.1)
      obtain ⟨r', h1, h2, h3⟩ := ih (i + 1) ho.tail
      refine ⟨r', ?_, fun hq => h2 (by cases o <;> simp_all), fun j v' hq => ?_⟩
      · simp only [Instr.findAsking, Sem.run_bind, he, Result.andThen_ok, Bool.false_eq_true, if_false]; exact h1
      · cases o with
        | none => cases hq
        | some q =>
          obtain ⟨j', v1⟩ := q
          simp only [Option.map_some, Option.some.injEq, Prod.mk.injEq] at hq
          obtain ⟨rfl, rfl⟩ := hq
          obtain ⟨u', hu1, hu2⟩ := h3 j' _ rfl
          exact ⟨u', by simpa using hu1, by rw [hu2]; simp; omega⟩
/-- Where the keys' kind is plain the model looks without asking: to the same end. -/
theorem findNow_run {kt : TypeId} {k : PV} {kv : Value} {d : TypeDesc} (hd : P.underlying kt = some d) (hk : RV P G k kv) : ∀ {es : List (PV × PV)} {q : Option (Nat × PV)}, Found P kt k es q → ∀ {ens : List MapEntry} (i : Nat) {r : Option (Nat × Value)}, EntsOk P G.H es ens →
    Instr.findNow d kv ens i = some r → (q = none → r = none) ∧ ∀ j v, q = some (j, v) → ∃ u, ens[j]? = some u ∧ r = some (i + j, u.val) := by
  intro es q h
  have same : ∀ {k' : PV} {kv' : Value} {b c : Bool}, eqPV P 64 kt k k' = some b → RV P G k' kv' → Instr.sameNow d kv kv' = some c → c = b := by
    intro k' kv' b c hb hk' hc
    unfold eqPV at hb
    rw [hd] at hb
    split at hb
    · rename_i k0 a k1 b1 hu
      obtain ⟨rfl, _⟩ := hk.val_inv
      obtain ⟨rfl, _⟩ := hk'.val_inv
      injection hu with hu
      subst hu
      simp only [Instr.sameNow] at hc
      by_cases hkk : k0 = k1
      · subst hkk
        simp at hb hc
        rw [← hb, ← hc]
      · simp [hkk] at hb
    · rename_i hu
      obtain ⟨rfl, _⟩ := hk.val_inv
      obtain ⟨rfl, _⟩ := hk'.val_inv
      injection hu with hu
      subst hu
      simp only [Instr.sameNow, Option.some.injEq] at hc
      simp only [Option.some.injEq] at hb
      rw [← hb, ← hc]
    · rename_i hu
      obtain ⟨rfl, _⟩ := hk.val_inv
      obtain ⟨rfl, _⟩ := hk'.val_inv
      injection hu with hu
      subst hu
      simp only [Instr.sameNow, Option.some.injEq] at hc
      simp only [Option.some.injEq] at hb
      rw [← hb, ← hc, beq_toListBytes, ba_toList, ba_toList]
    · rename_i hu
      injection hu with hu
      subst hu
      simp [Instr.sameNow] at hc
    · rename_i hu
      injection hu with hu
      subst hu
      simp [Instr.sameNow] at hc
    · cases hb
  induction h with
  | nil =>
    intro ens i r ho hr
    have : ens = [] := List.eq_nil_of_length_eq_zero (by simpa using ho.1)
    subst this
    simp only [Instr.findNow, Option.some.injEq] at hr
    exact ⟨fun _ => hr.symm, (fun j v h => by cases h)⟩
  | here k' v r h =>
    intro ens i r' ho hr
    cases ens with
    | nil => have := ho.1; simp at this
    | cons u ens =>
      have h0 := ho.2 0 (k', v) u rfl rfl
      simp only [Instr.findNow] at hr
      split at hr
      · injection hr with hr
        subst hr
        refine ⟨(fun h => by cases h), fun j v' hq => ?_⟩
        simp only [Option.some.injEq, Prod.mk.injEq] at hq
        obtain ⟨rfl, rfl⟩ := hq
        exact ⟨u, rfl, rfl⟩
      · rename_i hs
        have := same h (.sh h0.1) hs
        cases this
      · cases hr
  | there k' v r o h hrr ih =>
    intro ens i r' ho hr
    cases ens with
    | nil => have := ho.1; simp at this
    | cons u ens =>
      have h0 := ho.2 0 (k', v) u rfl rfl
      simp only [Instr.findNow] at hr
      split at hr
      · rename_i hs
        have := same h (.sh h0.1) hs
        cases this
      · obtain ⟨h2, h3⟩ := ih (i + 1) ho.tail hr
        refine ⟨fun hq => h2 (by cases o <;> simp_all), fun j v' hq => ?_⟩
        cases o with
        | none => cases hq
        | some q =>
          obtain ⟨j', v1⟩ := q
          simp only [Option.map_some, Option.some.injEq, Prod.mk.injEq] at hq
          obtain ⟨rfl, rfl⟩ := hq
          obtain ⟨u', hu1, hu2⟩ := h3 j' _ rfl
          exact ⟨u', by simpa using hu1, by rw [hu2]; simp; omega⟩
      · cases hr
theorem findKey_run {kt : TypeId} {k : PV} {kv : Value} {d : TypeDesc} (hd : P.underlying kt = some d) (hk : RV P G k kv) {es : List (PV × PV)} {q : Option (Nat × PV)} (h : Found P kt k es q) {ens : List MapEntry} (ho : EntsOk P G.H es ens) :
    ∃ r, (Instr.findKey kt kv ens).run P w = .ok r w ∧ (q = none → r = none) ∧ ∀ j v, q = some (j, v) → ∃ u, ens[j]? = some u ∧ r = some (j, u.val) := by
  simp only [Instr.findKey, Sem.run_bind, run_underlying hd, Result.andThen_ok]
  cases hn : Instr.findNow d kv ens 0 with
  | some r =>
    obtain ⟨h1, h2⟩ := findNow_run hd hk h 0 ho hn
    exact ⟨r, rfl, h1, fun j v hq => by obtain ⟨u, a, b⟩ := h2 j v hq; exact ⟨u, a, by rw [b]; simp⟩⟩
  | none =>
    obtain ⟨r, h0, h1, h2⟩ := findAsking_run (w := w) hk h 0 ho
    exact ⟨r, h0, h1, fun j v hq => by obtain ⟨u, a, b⟩ := h2 j v hq; exact ⟨u, a, by rw [b]; simp⟩⟩

theorem InvM.newMap (h : InvM P W ps G m w) {id : Nat} (hid : mget m id = none) (t : TypeId) :
    Ext G (G.newB id w.heap.size) ∧ InvM P W ps (G.newB id w.heap.size) ((id, (.mp t [], false)) :: m) (w.alloc (.map #[] 0)) := by
  have he : Ext G (G.newB id w.heap.size) := Ext.newB (h.freshB hid)
  refine ⟨he, h.go he (alloc_base _ _) (fun k => k = id) ?_ ?_ ?_ ?_ ?_ ?_ ?_ ?_ ?_⟩
  · intro k hk; rw [mget_cons, if_neg (Ne.symm hk)]
  · intro k o hk; rw [mget_cons]; split <;> exact ⟨_, by first | rfl | exact hk⟩
  · intro b hlt _; exact Below.heap_alloc w _ b hlt
  · intro b cs h1 h2; exact absurd h1 (by rw [show (G.newB id w.heap.size).H = G.H from rfl, h2]; simp)
  · intro b cs h1 h2; exact absurd h1 (by rw [show (G.newB id w.heap.size).H = G.H from rfl, h2]; simp)
  · rintro k o rfl hk
    rw [mget_cons, if_pos rfl] at hk
    injection hk with hk
    subst hk
    refine ⟨w.heap.size, by simp [Ghost.newB], ⟨#[], 0, heap_alloc_new w _, rfl, fun i x u hx => by simp at hx⟩, .inl h.size, ?_⟩
    show G.H w.heap.size = none
    cases hc : G.H w.heap.size with
    | none => rfl
    | some cs =>
      have := (Array.getElem?_eq_some_iff.1 (h.shared _ _ hc)).1
      omega
  · rintro i j c d rfl hi hj hne b hbi hbj
    rw [mget_cons, if_pos rfl] at hi
    injection hi with hi
    injection hi with hi _
    subst hi
    rw [mget_cons, if_neg hne] at hj
    rw [(h.obj j _ hj).blk_ext he] at hbj
    have := blk_lt h hj hbj
    simp [blk, Ghost.newB] at hbi
    omega
  · intro r v' h1 h2; exact absurd h1 (by rw [show (G.newB id w.heap.size).R = G.R from rfl, h2]; simp)
  · intro k b h1 h2
    by_cases hk : k = id
    · subst hk; exact ⟨_, by rw [mget_cons, if_pos rfl]⟩
    · simp [Ghost.newB, hk, h2] at h1
theorem makeMapE_run {d : Option Tmp} {t : TypeId} {e : Eff} (hI : InvM P W ps G m w) (h : makeMapE P d t true = some e) (hf : mget m (idOf d) = none) :
    ∃ r w', (Instr.makeMap t none).run P w = .ok r w' ∧ Done P W ps G m e r w' ∧ e.chk = true := by
  unfold makeMapE at h
  split at h
  · simp only [cond_true, Option.some.injEq] at h
    subst h
    obtain ⟨he, hI'⟩ := hI.newMap hf t
    exact ⟨.map (some w.heap.size), w.alloc (.map #[] 0), by simp [Instr.makeMap], ⟨_, he, hI', .mref _ _ (by simp [Ghost.newB])⟩, rfl⟩
  · cases h

theorem mapEs_run (hI : InvM P W ps G m w) {t : TypeId} {x : PV} {v : Value} {es : List (PV × PV)} {l : List Nat} (h : mapEs m t x = some (es, l)) (hx : RV P G x v) :
    (v = .map none ∧ es = []) ∨ ∃ b ens clk, v = .map (some b) ∧ w.heap[b]? = some (.map ens clk) ∧ EntsOk P G.H es ens.toList := by
  unfold mapEs at h
  split at h
  · rename_i t' es'
    replace h := (bif_some h).2
    simp only [Option.some.injEq, Prod.mk.injEq] at h
    obtain ⟨rfl, rfl⟩ := h
    have hs := hx.smap_sh
    cases hs with
    | smap _ _ b ens clk hb hl hk hv =>
      exact .inr ⟨b, ens, clk, rfl, hI.shared _ _ hb, by simpa using hl, fun i x u hx hu => ⟨hk i x u hx (by simpa using hu), hv i x u hx (by simpa using hu)⟩⟩
  · rename_i k
    split at h
    · rename_i t' es' fz hk
      replace h := (bif_some h).2
      simp only [Option.some.injEq, Prod.mk.injEq] at h
      obtain ⟨rfl, rfl⟩ := h
      obtain ⟨b, hb, rfl⟩ := hx.mref_inv
      obtain ⟨b2, hb2, ⟨ens, clk, m1, m2, m3⟩, _⟩ := hI.obj k _ hk
      rw [hb] at hb2
      injection hb2 with hb2
      subst hb2
      exact .inr ⟨b, ens, clk, rfl, m1, by simpa using m2, fun i x u hx hu => m3 i x u hx (by simpa using hu)⟩
    · cases h
  · simp only [Option.some.injEq, Prod.mk.injEq] at h
    obtain ⟨rfl, rfl⟩ := h
    obtain ⟨rfl, _⟩ := hx.val_inv
    exact .inl ⟨rfl, rfl⟩
  · cases h

theorem lookupE_run {t : TypeId} {x k : PV} {ok : Bool} {e : Eff} {v kv : Value} (hI : InvM P W ps G m w) (h : lookupE P m t x k ok = some e) (hx : RV P G x v) (hk : RV P G k kv) :
    ∃ r, (Instr.lookup t v kv ok).run P w = .ok r w ∧ RV P G e.v r ∧ e.upd = [] ∧ e.chk = true := by
  unfold lookupE at h
  split at h
  · rename_i kt vt hu
    split at h
    · rename_i es l k' hes hsh
      have hky := (bif_some h).1
      replace h := (bif_some h).2
      split at h
      · rename_i o z hlk hz
        injection h with h
        subst h
        have hk' : RV P G k' kv := .sh (share_sh hI hI (Ext.refl G) (Frz.refl m) hk hsh (by simp))
        obtain ⟨b0, hb0⟩ := Option.isSome_iff_exists.1 hky
        have hkd : ∃ d, P.underlying kt = some d := by
          cases hd : P.underlying kt with
          | some d => exact ⟨d, rfl⟩
          | none => simp [eqPV, hd] at hb0
        obtain ⟨d, hd⟩ := hkd
        have hck : ∀ em, (Instr.checkKey em 10000 kt kv).run P w = .ok () w := fun em => checkKey_run em 64 kt k' k' b0 kv w 9936 hb0 hk'
        obtain ⟨i, zv, hi, hzz, hsz, hone, hag⟩ := zeroOf_sh hz
        have hzr : (zeroValue vt).run P w = .ok zv w := by simp [zeroValue, typeInfo, hi, hzz]
        obtain ⟨q, hq, rfl⟩ := mlook_found hlk
        -- the entries that are there
        have key : ∀ (ens : List MapEntry), EntsOk P G.H es ens → ∃ r, (Instr.findKey kt kv ens).run P w = .ok r w ∧ RV P G ((q.map (·.2)).getD z) ((r.map (·.2)).getD zv) ∧ r.isSome = q.isSome := by
          intro ens ho
          obtain ⟨r, r1, r2, r3⟩ := findKey_run (w := w) hd hk' hq ho
          refine ⟨r, r1, ?_, ?_⟩
          · cases q with
            | none => rw [r2 rfl]; exact .sh (hsz G.H)
            | some q =>
              obtain ⟨j, v1⟩ := q
              obtain ⟨u, hu1, rfl⟩ := r3 j v1 rfl
              obtain ⟨k1, hes⟩ := hq.at rfl
              exact .sh (ho.2 j _ u hes hu1).2
          · cases q with
            | none => rw [r2 rfl]; rfl
            | some q =>
              obtain ⟨j, v1⟩ := q
              obtain ⟨u, hu1, rfl⟩ := r3 j v1 rfl
              rfl
        have fin : ∀ {r : Option (Nat × Value)}, RV P G ((q.map (·.2)).getD z) ((r.map (·.2)).getD zv) → r.isSome = q.isSome →
            RV P G (bif ok then .tup [(q.map (·.2)).getD z, .val (.bool (q.map (·.2)).isSome)] else (q.map (·.2)).getD z) (if ok then .tuple #[(r.map (·.2)).getD zv, .bool r.isSome] else (r.map (·.2)).getD zv) := by
          intro r r2 r3
          cases ok with
          | true =>
            simp only [cond_true, if_true]
            refine .tup _ _ rfl fun i y u hy hu => ?_
            match i with
            | 0 => simp at hy hu; subst hy hu; exact r2
            | 1 =>
              simp at hy hu
              subst hy hu
              rw [show r.isSome = q.isSome from r3]
              exact .ofVal rfl
            | i + 2 => simp at hy
          | false => simpa using r2
        rcases mapEs_run hI hes hx with ⟨rfl, rfl⟩ | ⟨b, ens, clk, rfl, hw, ho⟩
        · obtain ⟨r, r1, r2, r3⟩ := key [] ⟨rfl, fun i x u h => by simp at h⟩
          refine ⟨_, ?_, fin r2 r3, rfl, rfl⟩
          cases r with
          | none => cases ok <;> simp [Instr.lookup, run_underlying hu, hck, r1, hzr]
          | some r => cases ok <;> simp [Instr.lookup, run_underlying hu, hck, r1]
        · obtain ⟨r, r1, r2, r3⟩ := key ens.toList ho
          refine ⟨_, ?_, fin r2 r3, rfl, rfl⟩
          cases r with
          | none => cases ok <;> simp [Instr.lookup, run_underlying hu, getMap_run hw, hck, r1, hzr]
          | some r => cases ok <;> simp [Instr.lookup, run_underlying hu, getMap_run hw, hck, r1]
      · cases h
    · cases h
  · cases h

theorem valEq_spec {a b : Value} (h : valEq a b = true) : a = b := by
  unfold valEq at h
  split at h
  · simp only [Bool.and_eq_true, beq_iff_eq] at h
    rw [h.1, h.2]
  · rw [beq_iff_eq.1 h]
  · rename_i a b
    have h := beq_iff_eq.1 h
    have : a = b := ByteArray.ext (Array.ext' h)
    rw [this]
  · cases h
theorem sameBits_val {a b : Value} (h : valEq a b = true) (n : Nat) : Instr.sameBits n a b = true := by
  have := valEq_spec h
  subst this
  unfold valEq at h
  split at h
  · cases n <;> simp [Instr.sameBits]
  · cases n <;> simp [Instr.sameBits]
  · cases n <;> simp [Instr.sameBits, beq_toListBytes]
  · cases h
theorem cellEq_sh {H : Sharing} {x y : PV} {u v : Value} (h : cellEq x y = true) (hx : Sh P H x u) (hy : Sh P H y v) : valEq u v = true := by
  unfold cellEq at h
  split at h
  · cases hx; cases hy; exact h
  · cases h
theorem sameKey_bits {H : Sharing} {x y : PV} {u v : Value} (h : sameKey x y = true) (hx : Sh P H x u) (hy : Sh P H y v) : Instr.sameBits 10000 u v = true := by
  unfold sameKey at h
  split at h
  · rename_i xs ys
    cases hx with
    | agg _ us hl h1 hS =>
      cases hy with
      | agg _ vs hl' h1' hS' =>
        have key : ∀ (xs ys : List PV) (us vs : List Value), cellsEq xs ys = true → us.length = xs.length → vs.length = ys.length → (∀ (i : Nat) (x : PV) (u : Value), xs[i]? = some x → us[i]? = some u → Sh P H x u) →
            (∀ (i : Nat) (x : PV) (u : Value), ys[i]? = some x → vs[i]? = some u → Sh P H x u) → us.length = vs.length ∧ ((us.zip vs).all fun (x, y) => Instr.sameBits 9999 x y) = true := by
          intro xs
          induction xs with
          | nil =>
            intro ys us vs h hl hl' _ _
            cases ys with
            | nil => have e1 := List.eq_nil_of_length_eq_zero hl; have e2 := List.eq_nil_of_length_eq_zero hl'; subst e1 e2; exact ⟨rfl, rfl⟩
            | cons y ys => cases h
          | cons x xs ih =>
            intro ys us vs h hl hl' hS hS'
            cases ys with
            | nil => cases h
            | cons y ys =>
              simp only [cellsEq, Bool.and_eq_true] at h
              cases us with
              | nil => simp at hl
              | cons u us =>
                cases vs with
                | nil => simp at hl'
                | cons v vs =>
                  obtain ⟨i1, i2⟩ := ih ys us vs h.2 (by simpa using hl) (by simpa using hl') (fun i x u hx hu => hS (i + 1) x u (by simpa using hx) (by simpa using hu)) (fun i x u hx hu => hS' (i + 1) x u (by simpa using hx) (by simpa using hu))
                  refine ⟨by simp [i1], ?_⟩
                  have h0 := sameBits_val (cellEq_sh h.1 (hS 0 x u rfl rfl) (hS' 0 y v rfl rfl)) 9999
                  simp only [List.zip_cons_cons, List.all_cons, Bool.and_eq_true]
                  exact ⟨h0, i2⟩
        obtain ⟨q1, q2⟩ := key xs ys us.toList vs.toList h (by simpa using hl) (by simpa using hl') (fun i x u hx hu => hS i x u hx (by simpa using hu)) (fun i x u hx hu => hS' i x u hx (by simpa using hu))
        show Instr.sameBits (9999 + 1) (.agg us) (.agg vs) = true
        simp only [Instr.sameBits, Bool.and_eq_true, beq_iff_eq]
        exact ⟨by simpa using q1, q2⟩
  · exact sameBits_val (cellEq_sh h hx hy) _

/-- A map's entries are replaced. -/
theorem InvM.setMap {w' : World} (h : InvM P W ps G m w) {id : Nat} {t : TypeId} {es0 es : List (PV × PV)} (hid : mget m id = some (.mp t es0, false)) {b : Nat} (hb : G.B id = some b)
    (hbase : w'.os = w.os ∧ w'.tape = w.tape ∧ w'.output = w.output ∧ w.heap.size ≤ w'.heap.size)
    (hw : ∀ g, g ≠ b → w'.heap[g]? = w.heap[g]?) (hx : MapOk P G.H w' es b) : InvM P W ps G (mset m id (.mp t es, false)) w' := by
  have hobj := h.obj id _ hid
  have hbb : blk G id (.mp t es0) = some b := by simp [blk, hb]
  refine h.go (Ext.refl G) hbase (fun k => k = id) ?_ ?_ ?_ ?_ ?_ ?_ ?_ ?_ ?_
  · intro k hk; rw [mget_mset, if_neg (Ne.symm hk)]
  · intro k o hk; rw [mget_mset]; split <;> simp [hk]
  · intro g _ hg; exact hw g fun e => hg id _ rfl hid (e ▸ hbb)
  · intro b cs h1 h2; rw [h1] at h2; cases h2
  · intro b cs h1 h2; rw [h1] at h2; cases h2
  · rintro k o rfl hk
    rw [mget_mset, if_pos rfl, hid] at hk
    injection hk with hk
    subst hk
    have := hobj.base hbb
    exact ⟨b, hb, hx, this.1, this.2.1⟩
  · rintro i j c d rfl hi hj hne g hbi hbj
    rw [mget_mset, if_pos rfl, hid] at hi
    injection hi with hi
    injection hi with hi _
    subst hi
    rw [mget_mset, if_neg hne] at hj
    exact h.apart i j _ d hid hj hne g (by simpa [blk] using hbi) hbj
  · intro r v h1 h2; rw [h1] at h2; cases h2
  · intro r v h1 h2; rw [h1] at h2; cases h2

theorem updateE_run {t : TypeId} {x k v : PV} {e : Eff} {xv kv vv : Value} (hI : InvM P W ps G m w) (h : updateE P m t x k v = some e) (hx : RV P G x xv) (hk : RV P G k kv) (hv : RV P G v vv) :
    ∃ G' w', Ext G G' ∧ (Instr.mapUpdate t xv kv vv).run P w = .ok () w' ∧ InvM P W ps G' (applyAll m e.upd) w' ∧ e.v = .junk ∧ e.chk = true := by
  unfold updateE at h
  split at h
  · rename_i kt vt id hu
    split at h
    · rename_i t' es hid
      split at h
      · rename_i k' v' l' hsk hsv
        have hg := (bif_some h).1
        replace h := (bif_some h).2
        simp only [Bool.and_eq_true, beq_iff_eq] at hg
        obtain ⟨⟨hky, htt⟩, hnl⟩ := hg
        subst htt
        split at h
        · rename_i es' hput
          injection h with h
          subst h
          have hnid : id ∉ l' := by
            intro hm
            have := List.all_eq_true.1 hnl id hm
            simp at this
          obtain ⟨G', he, hI', hf, hfr, hns, hR, hB⟩ := hI.freezeAll l' (share_alive hsv)
          have hvs := share_sh hI hI' he hf hv hsv hfr
          have hks : Sh P G.H k' kv := share_sh hI hI (Ext.refl G) (Frz.refl m) hk hsk (by simp)
          have hk' : RV P G' k' kv := .sh (hks.mono he.H)
          have hid' : mget (applyAll m (freezes l')) id = some (.mp t es, false) := (hns id hnid).trans hid
          obtain ⟨b, hb, rfl⟩ := hx.mref_inv
          obtain ⟨b2, hb2, ⟨ens, clk, m1, m2, m3⟩, _⟩ := hI'.obj id _ hid'
          rw [he.B _ _ hb] at hb2
          injection hb2 with hb2
          subst hb2
          obtain ⟨b0, hb0⟩ := Option.isSome_iff_exists.1 hky
          have hkd : ∃ d, P.underlying kt = some d := by
            cases hd : P.underlying kt with
            | some d => exact ⟨d, rfl⟩
            | none => simp [eqPV, hd] at hb0
          obtain ⟨d, hd⟩ := hkd
          have hck : (Instr.checkKey false 10000 kt kv).run P w = .ok () w := checkKey_run false 64 kt k' k' b0 kv w 9936 hb0 hk'
          have ho : EntsOk P G'.H es ens.toList := ⟨by simpa using m2, fun i x u hx hu => m3 i x u hx (by simpa using hu)⟩
          obtain ⟨q, hq, hres⟩ := mput_found hput
          obtain ⟨r, r1, r2, r3⟩ := findKey_run (w := w) hd hk' hq ho
          have fin : ∀ (ens' : Array MapEntry) (clk' : Nat), ens'.size = es'.length → (∀ (i : Nat) (x : PV × PV) (u : MapEntry), es'[i]? = some x → ens'[i]? = some u → Sh P G'.H x.1 u.key ∧ Sh P G'.H x.2 u.val) →
              InvM P W ps G' (applyAll m (freezes l' ++ [(id, .cont (.mp t es'))])) { w with heap := w.heap.setIfInBounds b (.map ens' clk') } := by
            intro ens' clk' hl hS
            rw [applyAll_append, applyAll_cons, applyAll_nil]
            simp only [applyUpd, hid']
            have hlt := (Array.getElem?_eq_some_iff.1 m1).1
            refine hI'.setMap hid' (he.B _ _ hb) ⟨rfl, rfl, rfl, by simp⟩ (fun g hg => by simp [Array.getElem?_setIfInBounds, Ne.symm hg]) ⟨ens', clk', ?_, hl, hS⟩
            simp [Array.getElem?_setIfInBounds, hlt]
          rcases hres with ⟨rfl, rfl⟩ | ⟨i, v1, k1, rfl, hes, hsame, rfl⟩
          · have hr := r2 rfl
            subst hr
            refine ⟨G', _, he, ?_, fin (ens.push { key := kv, val := vv, born := clk }) (clk + 1) (by simp [m2]) ?_, rfl, rfl⟩
            · simp [Instr.mapUpdate, run_underlying hu, getMap_run m1, hck, r1, setMap_run m1]
            · intro i x u hx hu'
              rw [List.getElem?_append] at hx
              rw [Array.getElem?_push] at hu'
              by_cases hi : i < es.length
              · rw [if_pos hi] at hx
                rw [if_neg (by omega)] at hu'
                exact m3 i x u hx hu'
              · rw [if_neg hi] at hx
                have h0 : i = es.length := by
                  have := (List.getElem?_eq_some_iff.1 hx).1
                  simp at this
                  omega
                subst h0
                rw [if_pos m2.symm] at hu'
                simp at hx hu'
                subst hx hu'
                exact ⟨hks.mono he.H, hvs⟩
          · obtain ⟨u, hu1, rfl⟩ := r3 i v1 rfl
            have hu2 : ens[i]? = some u := by simpa using hu1
            have h1 := m3 i _ u hes hu2
            have hstays : (Instr.keyThatStays u.key kv).run P w = .ok kv w := by
              simp [Instr.keyThatStays, sameKey_bits hsame h1.1 (hks.mono he.H)]
            refine ⟨G', _, he, ?_, fin (ens.modify i fun e => { e with key := kv, val := vv }) clk (by simp [m2]) ?_, rfl, rfl⟩
            · simp [Instr.mapUpdate, run_underlying hu, getMap_run m1, hck, r1, hu2, hstays, setMap_run m1]
            · intro j x u' hx hu'
              rw [Array.getElem?_modify] at hu'
              rw [List.getElem?_set] at hx
              by_cases hij : i = j
              · subst hij
                rw [if_pos rfl] at hx
                rw [if_pos rfl, hu2] at hu'
                have hlt := (List.getElem?_eq_some_iff.1 hes).1
                rw [if_pos hlt] at hx
                simp at hx hu'
                subst hx hu'
                exact ⟨hks.mono he.H, hvs⟩
              · rw [if_neg hij] at hx hu'
                exact m3 j x u' hx hu'
        · cases h
      · cases h
    · cases h
  · cases h
end
end Go.Pm

/- What a function's contract says; calls. -/
namespace Go.Pm
open Go.RowKit

section
variable (P : Program) (H : Sharing) (w : World)

/-- What a call hands back: one cell's value, and the blocks that are the caller's from then on. -/
def R1 (x : PV) (v : Value) (bl : List Nat) : Prop := match x with
  | .row e E => RowOk P H w e E v ∧ bl = v.ownBlock.toList
  | .bx t x => ∃ b u, v = .pointer (some ⟨b, 0, none⟩) ∧ Sh P H x u ∧ u.cells.size = sizeT P t ∧ aggV u = isAgg P t ∧ (∀ y ∈ u.cells, y.oneCell' = true) ∧ w.heap[b]? = some (.cells u.cells t (0, 0)) ∧ bl = [b]
  | x => Sh P H x v ∧ bl = []
def RL : List PV → List Value → List Nat → Prop
  | [], [], bl => bl = []
  | x :: xs, v :: vs, bl => ∃ b1 b2, bl = b1 ++ b2 ∧ R1 P H w x v b1 ∧ RL xs vs b2
  | _, _, _ => False
def R2 (x : PV) (v : Value) (bl : List Nat) : Prop := match x with
  | .agg cs => ∃ us : Array Value, v = .agg us ∧ (∀ u ∈ us, u.oneCell' = true) ∧ RL P H w cs us.toList bl
  | x => R1 P H w x v bl
def RM : List PV → List Value → List Nat → Prop
  | [], [], bl => bl = []
  | x :: xs, v :: vs, bl => ∃ b1 b2, bl = b1 ++ b2 ∧ R2 P H w x v b1 ∧ RM xs vs b2
  | _, _, _ => False
def R3 (x : PV) (v : Value) (bl : List Nat) : Prop := match x with
  | .tup vs => ∃ us : Array Value, v = .tuple us ∧ RM P H w vs us.toList bl
  | x => R2 P H w x v bl
/-- An argument: shared, or a box that the call may write to. -/
def A1 (x : PV) (v : Value) (bl : List Nat) : Prop := match x with
  | .bx t x => ∃ b u, v = .pointer (some ⟨b, 0, none⟩) ∧ Sh P H x u ∧ u.cells.size = sizeT P t ∧ aggV u = isAgg P t ∧ (∀ y ∈ u.cells, y.oneCell' = true) ∧ w.heap[b]? = some (.cells u.cells t (0, 0)) ∧ H b = none ∧ bl = [b]
  | .row e E => RowOk P H w e E v ∧ (∀ b ∈ bl, H b = none) ∧ bl = v.ownBlock.toList
  | x => Sh P H x v ∧ bl = []
def AL : List PV → List Value → List Nat → Prop
  | [], [], bl => bl = []
  | x :: xs, v :: vs, bl => ∃ b1 b2, bl = b1 ++ b2 ∧ A1 P H w x v b1 ∧ AL xs vs b2
  | _, _, _ => False
/-- What is handed on: a box, its block; a row, its value. -/
inductive Hd where
  | box (t : TypeId) (b : Nat)
  | row (e : TypeId) (v : Value)
def Hd.blocks : Hd → List Nat
  | .box _ b => [b]
  | .row _ v => v.ownBlock.toList
def handed : List PV → List Value → List Hd
  | x :: r, v :: vs => match x with
    | .bx t _ => .box t (match v with | .pointer (some a) => a.block | _ => 0) :: handed r vs
    | .row e _ => .row e v :: handed r vs
    | _ => handed r vs
  | _, _ => []
/-- What was handed on, as it is behind the call, in order. -/
def OutB (H : Sharing) (w : World) (t : TypeId) (y : PV) (b : Nat) : Prop := ∃ u, Sh P H y u ∧ u.cells.size = sizeT P t ∧ aggV u = isAgg P t ∧ (∀ z ∈ u.cells, z.oneCell' = true) ∧ w.heap[b]? = some (.cells u.cells t (0, 0))
def Out1 (y : PV) : Hd → Prop
  | .box t b => OutB P H w t y b
  | .row e v => match y with
    | .row e' E => e' = e ∧ RowOk P H w e E v
    | .junk => True
    | _ => False
def OL : List PV → List Hd → Prop
  | [], [] => True
  | y :: ys, h :: hs => Out1 P H w y h ∧ OL ys hs
  | _, _ => False
end
/-- The blocks of the rows that are given up. -/
def deadB : List PV → List Hd → List Nat
  | y :: ys, h :: hs => (match y, h with | .junk, .row _ v => v.ownBlock.toList | _, _ => []) ++ deadB ys hs
  | _, _ => []

def HOk (H : Sharing) (w : World) : Prop := ∀ b cs, H b = some cs → w.heap[b]? = some cs

/-- The call of f at these arguments hands back this. -/
def Contract (P : Program) (f : FuncId) (args : List PV) (res : PV) (outs : List PV) : Prop :=
  ∀ (w : World) (H : Sharing) (vals : Array Value) (pb : List Nat), HOk H w → AL P H w args vals.toList pb → pb.Nodup →
    Calls P f vals w fun e w' => ∃ v H' bl, e = .returned v ∧ (∀ b cs, H b = some cs → H' b = some cs) ∧ (∀ b cs, H' b = some cs → H b = none → w.heap.size ≤ b ∨ b ∈ deadB outs (handed args vals.toList)) ∧ HOk H' w' ∧
      (w'.os = w.os ∧ w'.tape = w.tape ∧ w'.output = w.output ∧ w.heap.size ≤ w'.heap.size) ∧ (∀ b, b < w.heap.size → b ∉ pb → w'.heap[b]? = w.heap[b]?) ∧
      R3 P H' w' res v bl ∧ bl.Nodup ∧ (∀ b ∈ bl, (w.heap.size ≤ b ∨ b ∈ deadB outs (handed args vals.toList)) ∧ b < w'.heap.size ∧ H' b = none) ∧ OL P H' w' outs (handed args vals.toList)
/-- The function is one that is entered. -/
def Entered (P : Program) (f : FuncId) : Prop := ∃ fn, P.funcs[f]? = some fn ∧ (fn.name == "runtime.NumGoroutine") = false ∧ fn.body.isNone = false
/-- A table of functions, all of whose rows are right. -/
def TableOk (P : Program) (T : FuncId → List PV → Option (PV × List PV)) : Prop := ∀ f args r outs, f < 1000000 → T f args = some (r, outs) → Entered P f ∧ Contract P f args r outs

end Go.Pm

/- Calls: what they come to. -/
namespace Go.Pm
open Go.RowKit

section
variable {P : Program} {W : World} {ps : List Nat} {G : Ghost} {m : Mem} {w : World}

/-- No object that is written to lies in this block. -/
def Untracked (G : Ghost) (m : Mem) (b : Nat) : Prop := ∀ j d, mget m j = some (d, false) → blk G j d ≠ some b

/-- A block that nobody knew becomes an object's. -/
theorem InvM.adopt (h : InvM P W ps G m w) {id : Nat} (hid : mget m id = none) {c : Cont} {G' : Ghost} (he : Ext G G') (hH : G'.H = G.H)
    (hR : ∀ r v, G'.R r = some v → G.R r = none → r = id) (hB : ∀ r v, G'.B r = some v → G.B r = none → r = id)
    (hob : ObjOk P W ps G' w id (c, false)) (hun : ∀ b, blk G' id c = some b → Untracked G m b) : InvM P W ps G' ((id, (c, false)) :: m) w := by
  refine h.go he ⟨rfl, rfl, rfl, Nat.le_refl _⟩ (fun k => k = id) ?_ ?_ (fun _ _ _ => rfl) ?_ ?_ ?_ ?_ ?_ ?_
  · intro k hk; rw [mget_cons, if_neg (Ne.symm hk)]
  · intro k o hk; rw [mget_cons]; split <;> exact ⟨_, by first | rfl | exact hk⟩
  · intro b cs h1 h2; rw [hH, h2] at h1; cases h1
  · intro b cs h1 h2; rw [hH, h2] at h1; cases h1
  · rintro k o rfl hk
    rw [mget_cons, if_pos rfl] at hk
    injection hk with hk
    subst hk
    exact hob
  · rintro i j c' d rfl hi hj hne b hbi hbj
    rw [mget_cons, if_pos rfl] at hi
    injection hi with hi
    injection hi with hi _
    subst hi
    rw [mget_cons, if_neg hne] at hj
    rw [(h.obj j _ hj).blk_ext he] at hbj
    exact hun b hbi j d hj hbj
  · intro r v h1 h2; rw [hR r v h1 h2]; exact ⟨_, by rw [mget_cons, if_pos rfl]⟩
  · intro r v h1 h2; rw [hB r v h1 h2]; exact ⟨_, by rw [mget_cons, if_pos rfl]⟩

/-- What is adopted from a call: the blocks are new to everybody. -/
structure Fresh (P : Program) (W : World) (ps : List Nat) (G : Ghost) (m : Mem) (bl : List Nat) : Prop where
  nodup : bl.Nodup
  own : ∀ b ∈ bl, (W.heap.size ≤ b ∨ b ∈ ps) ∧ G.H b = none ∧ Untracked G m b

theorem import1_run {x y : PV} {v : Value} {us : List (Nat × Upd)} {n n' : Nat} {bl : List Nat} (hI : InvM P W ps G m w) (h : import1 n x = (y, us, n')) (hf0 : n < n' → mget m n = none) (hx : R1 P G.H w x v bl) (hb : Fresh P W ps G m bl) :
    ∃ G', Ext G G' ∧ G'.H = G.H ∧ InvM P W ps G' (applyAll m us) w ∧ RV P G' y v ∧ n ≤ n' ∧ n' = n + us.length ∧ (∀ k, n' ≤ k → mget (applyAll m us) k = mget m k) ∧
      (∀ b, b ∉ bl → Untracked G m b → Untracked G' (applyAll m us) b) := by
  have other : ∀ {z : PV}, import1 n z = (z, [], n) → import1 n z = (y, us, n') → (Sh P G.H z v ∧ bl = []) →
      ∃ G', Ext G G' ∧ G'.H = G.H ∧ InvM P W ps G' (applyAll m us) w ∧ RV P G' y v ∧ n ≤ n' ∧ n' = n + us.length ∧ (∀ k, n' ≤ k → mget (applyAll m us) k = mget m k) ∧
      (∀ b, b ∉ bl → Untracked G m b → Untracked G' (applyAll m us) b) := by
    intro z e1 e2 hz
    rw [e1] at e2
    simp only [Prod.mk.injEq] at e2
    obtain ⟨rfl, rfl, rfl⟩ := e2
    exact ⟨G, Ext.refl G, rfl, hI, .sh hz.1, Nat.le_refl _, rfl, fun _ _ => rfl, fun b _ hu => hu⟩
  cases x with
  | row e E =>
    obtain ⟨hrow, rfl⟩ := hx
    simp only [import1, Prod.mk.injEq] at h
    obtain ⟨rfl, rfl, rfl⟩ := h
    have hf := hf0 (by omega)
    have he : Ext G (G.newR n v) := Ext.newR (hI.freshR hf)
    have hbk : ∀ b, blk (G.newR n v) n (.row e E) = some b → b ∈ v.ownBlock.toList := by
      intro b hb'
      simp only [blk, Ghost.newR, ↓reduceIte, Option.bind_some] at hb'
      simp [hb']
    refine ⟨G.newR n v, he, rfl, ?_, .ref _ _ (by simp [Ghost.newR]) hrow.one, by omega, rfl, ?_, ?_⟩
    · simp only [applyAll_cons, applyAll_nil, applyUpd]
      refine hI.adopt hf he rfl (fun r v' h1 h2 => ?_) (fun r v' h1 h2 => by rw [show (G.newR n v).B = G.B from rfl, h2] at h1; cases h1) ?_ (fun b hb' => (hb.own b (hbk b hb')).2.2)
      · by_cases hr : r = n
        · exact hr
        · simp [Ghost.newR, hr, h2] at h1
      · exact ⟨v, by simp [Ghost.newR], hrow, fun b hb' => ⟨(hb.own b (by simp [hb'])).1, (hb.own b (by simp [hb'])).2.1⟩⟩
    · intro k hk
      simp only [applyAll_cons, applyAll_nil, applyUpd, mget_cons]
      rw [if_neg (by omega)]
    · intro b hnb hu j d hj hbj
      simp only [applyAll_cons, applyAll_nil, applyUpd, mget_cons] at hj
      split at hj
      · rename_i hjn
        subst hjn
        injection hj with hj
        injection hj with hj _
        subst hj
        exact hnb (hbk b hbj)
      · rw [(hI.obj j _ hj).blk_ext he] at hbj
        exact hu j d hj hbj
  | bx t x =>
    obtain ⟨b0, u, rfl, hs, h1, h2, h3, h4, rfl⟩ := hx
    simp only [import1, Prod.mk.injEq] at h
    obtain ⟨rfl, rfl, rfl⟩ := h
    have hf := hf0 (by omega)
    have he : Ext G (G.newB n b0) := Ext.newB (hI.freshB hf)
    have hbk : ∀ b, blk (G.newB n b0) n (.box t x) = some b → b = b0 := by
      intro b hb'
      simp only [blk, Ghost.newB, ↓reduceIte, Option.some.injEq] at hb'
      exact hb'.symm
    have hown := hb.own b0 (by simp)
    refine ⟨G.newB n b0, he, rfl, ?_, .ptr _ 0 b0 (by simp [Ghost.newB]), by omega, rfl, ?_, ?_⟩
    · simp only [applyAll_cons, applyAll_nil, applyUpd]
      refine hI.adopt hf he rfl (fun r v' h1 h2 => by rw [show (G.newB n b0).R = G.R from rfl, h2] at h1; cases h1) (fun r v' h1 h2 => ?_) ?_ (fun b hb' => by rw [hbk b hb']; exact hown.2.2)
      · by_cases hr : r = n
        · exact hr
        · simp [Ghost.newB, hr, h2] at h1
      · exact ⟨b0, by simp [Ghost.newB], ⟨u, .sh hs, h1, h2, h3, h4⟩, hown.1, hown.2.1⟩
    · intro k hk
      simp only [applyAll_cons, applyAll_nil, applyUpd, mget_cons]
      rw [if_neg (by omega)]
    · intro b hnb hu j d hj hbj
      simp only [applyAll_cons, applyAll_nil, applyUpd, mget_cons] at hj
      split at hj
      · rename_i hjn
        subst hjn
        injection hj with hj
        injection hj with hj _
        subst hj
        exact hnb (by rw [hbk b hbj]; simp)
      · rw [(hI.obj j _ hj).blk_ext he] at hbj
        exact hu j d hj hbj
  | _ => exact other rfl h hx

theorem Fresh.left {bl b1 b2 : List Nat} (h : Fresh P W ps G m bl) (e : bl = b1 ++ b2) : Fresh P W ps G m b1 := by
  subst e
  exact ⟨(List.nodup_append.1 h.nodup).1, fun b hb => h.own b (List.mem_append.2 (.inl hb))⟩
theorem Fresh.right {G' : Ghost} {m' : Mem} {bl b1 b2 : List Nat} (h : Fresh P W ps G m bl) (e : bl = b1 ++ b2) (hH : G'.H = G.H) (hu : ∀ b, b ∉ b1 → Untracked G m b → Untracked G' m' b) : Fresh P W ps G' m' b2 := by
  subst e
  obtain ⟨n1, n2, n3⟩ := List.nodup_append.1 h.nodup
  refine ⟨n2, fun b hb => ?_⟩
  have := h.own b (List.mem_append.2 (.inr hb))
  exact ⟨this.1, by rw [hH]; exact this.2.1, hu b (fun hb1 => n3 b hb1 b hb rfl) this.2.2⟩

theorem R1_mono {H H' : Sharing} (hH : H' = H) {x : PV} {v : Value} {bl : List Nat} (h : R1 P H w x v bl) : R1 P H' w x v bl := by subst hH; exact h

theorem import1_le {n n' : Nat} {x y : PV} {us : List (Nat × Upd)} (h : import1 n x = (y, us, n')) : n ≤ n' := by
  cases x <;> simp only [import1, Prod.mk.injEq] at h <;> omega
theorem importL_le : ∀ {xs ys : List PV} {us : List (Nat × Upd)} {n n' : Nat}, importL n xs = (ys, us, n') → n ≤ n'
  | [], ys, us, n, n', h => by simp only [importL, Prod.mk.injEq] at h; omega
  | x :: xs, ys, us, n, n', h => by
    obtain ⟨⟨y, u1, n1⟩, hi1⟩ : ∃ q, import1 n x = q := ⟨_, rfl⟩
    obtain ⟨⟨ys', u2, n2⟩, hi2⟩ : ∃ q, importL n1 xs = q := ⟨_, rfl⟩
    simp only [importL, hi1, hi2, Prod.mk.injEq] at h
    have := import1_le hi1
    have := importL_le hi2
    omega
theorem import2_le {n n' : Nat} {x y : PV} {us : List (Nat × Upd)} (h : import2 n x = (y, us, n')) : n ≤ n' := by
  unfold import2 at h
  split at h
  · rename_i cs
    obtain ⟨⟨ys', u2, n2⟩, hi2⟩ : ∃ q, importL n cs = q := ⟨_, rfl⟩
    simp only [hi2, Prod.mk.injEq] at h
    have := importL_le hi2
    omega
  · exact import1_le h
theorem importM_le : ∀ {xs ys : List PV} {us : List (Nat × Upd)} {n n' : Nat}, importM n xs = (ys, us, n') → n ≤ n'
  | [], ys, us, n, n', h => by simp only [importM, Prod.mk.injEq] at h; omega
  | x :: xs, ys, us, n, n', h => by
    obtain ⟨⟨y, u1, n1⟩, hi1⟩ : ∃ q, import2 n x = q := ⟨_, rfl⟩
    obtain ⟨⟨ys', u2, n2⟩, hi2⟩ : ∃ q, importM n1 xs = q := ⟨_, rfl⟩
    simp only [importM, hi1, hi2, Prod.mk.injEq] at h
    have := import2_le hi1
    have := importM_le hi2
    omega

/-- What an import leaves. -/
structure Imported (P : Program) (W : World) (ps : List Nat) (G : Ghost) (m : Mem) (w : World) (bl : List Nat) (us : List (Nat × Upd)) (n n' : Nat) (G' : Ghost) : Prop where
  ext : Ext G G'
  H : G'.H = G.H
  inv : InvM P W ps G' (applyAll m us) w
  len : n' = n + us.length
  far : ∀ k, n' ≤ k → mget (applyAll m us) k = mget m k
  un : ∀ b, b ∉ bl → Untracked G m b → Untracked G' (applyAll m us) b

theorem import1_imp {x y : PV} {v : Value} {us : List (Nat × Upd)} {n n' : Nat} {bl : List Nat} (hI : InvM P W ps G m w) (h : import1 n x = (y, us, n')) (hf0 : n < n' → mget m n = none) (hx : R1 P G.H w x v bl) (hb : Fresh P W ps G m bl) :
    ∃ G', Imported P W ps G m w bl us n n' G' ∧ RV P G' y v := by
  obtain ⟨G', a1, a2, a3, a4, _, a6, a7, a8⟩ := import1_run hI h hf0 hx hb
  exact ⟨G', ⟨a1, a2, a3, a6, a7, a8⟩, a4⟩

theorem Imported.nil (hI : InvM P W ps G m w) (bl : List Nat) (n : Nat) : Imported P W ps G m w bl [] n n G := ⟨Ext.refl G, rfl, hI, rfl, fun _ _ => rfl, fun _ _ h => h⟩
theorem Imported.append {G1 G2 : Ghost} {bl b1 b2 : List Nat} {u1 u2 : List (Nat × Upd)} {n n1 n2 : Nat} (h : Imported P W ps G m w b1 u1 n n1 G1) (k : Imported P W ps G1 (applyAll m u1) w b2 u2 n1 n2 G2) (e : bl = b1 ++ b2) (hle : n1 ≤ n2) :
    Imported P W ps G m w bl (u1 ++ u2) n n2 G2 := by
  subst e
  refine ⟨h.ext.trans k.ext, k.H.trans h.H, by rw [applyAll_append]; exact k.inv, by rw [List.length_append]; have := h.len; have := k.len; omega, fun j hj => ?_, fun b hb hu => ?_⟩
  · rw [applyAll_append, k.far j hj, h.far j (by omega)]
  · rw [applyAll_append]
    exact k.un b (fun q => hb (List.mem_append.2 (.inr q))) (h.un b (fun q => hb (List.mem_append.2 (.inl q))) hu)

def RVs (P : Program) (G : Ghost) (ys : List PV) (vs : List Value) : Prop := vs.length = ys.length ∧ ∀ (i : Nat) (y : PV) (v : Value), ys[i]? = some y → vs[i]? = some v → RV P G y v
theorem RVs.cons {G : Ghost} {y : PV} {v : Value} {ys : List PV} {vs : List Value} (h : RV P G y v) (k : RVs P G ys vs) : RVs P G (y :: ys) (v :: vs) :=
  ⟨by simp [k.1], fun i z u hz hu => by
    cases i with
    | zero => simp only [List.getElem?_cons_zero, Option.some.injEq] at hz hu; subst hz hu; exact h
    | succ i => exact k.2 i z u (by simpa using hz) (by simpa using hu)⟩

theorem importL_run : ∀ {xs : List PV} {vs : List Value} {ys : List PV} {us : List (Nat × Upd)} {n n' : Nat} {bl : List Nat} {G : Ghost} {m : Mem}, InvM P W ps G m w → importL n xs = (ys, us, n') → (∀ k, n ≤ k → k < n' → mget m k = none) → RL P G.H w xs vs bl → Fresh P W ps G m bl →
    ∃ G', Imported P W ps G m w bl us n n' G' ∧ RVs P G' ys vs
  | [], vs, ys, us, n, n', bl, G, m, hI, h, hf, hx, hb => by
    cases vs with
    | cons => exact hx.elim
    | nil =>
      simp only [importL, Prod.mk.injEq] at h
      obtain ⟨rfl, rfl, rfl⟩ := h
      exact ⟨G, .nil hI bl n, rfl, fun i y v hy => by simp at hy⟩
  | x :: xs, vs, ys, us, n, n', bl, G, m, hI, h, hf, hx, hb => by
    cases vs with
    | nil => exact hx.elim
    | cons v vs =>
      obtain ⟨b1, b2, hbl, h1, h2⟩ := hx
      obtain ⟨⟨y, u1, n1⟩, hi1⟩ : ∃ q, import1 n x = q := ⟨_, rfl⟩
      obtain ⟨⟨ys', u2, n2⟩, hi2⟩ : ∃ q, importL n1 xs = q := ⟨_, rfl⟩
      simp only [importL, hi1, hi2, Prod.mk.injEq] at h
      obtain ⟨rfl, rfl, rfl⟩ := h
      have l1 := import1_le hi1
      have l2 := importL_le hi2
      obtain ⟨G1, I1, hy1⟩ := import1_imp hI hi1 (fun q => hf n (Nat.le_refl _) (by omega)) h1 (hb.left hbl)
      obtain ⟨G2, I2, hy2⟩ := importL_run I1.inv hi2 (fun k h1 h2 => by rw [I1.far k h1]; exact hf k (by omega) h2) (by rw [I1.H]; exact h2) (hb.right hbl I1.H I1.un)
      exact ⟨G2, I1.append I2 hbl l2, .cons (hy1.mono I2.ext) hy2⟩

theorem import2_run {x y : PV} {v : Value} {us : List (Nat × Upd)} {n n' : Nat} {bl : List Nat} (hI : InvM P W ps G m w) (h : import2 n x = (y, us, n')) (hf : ∀ k, n ≤ k → k < n' → mget m k = none) (hx : R2 P G.H w x v bl) (hb : Fresh P W ps G m bl) :
    ∃ G', Imported P W ps G m w bl us n n' G' ∧ RV P G' y v := by
  have one : import1 n x = (y, us, n') → R1 P G.H w x v bl → ∃ G', Imported P W ps G m w bl us n n' G' ∧ RV P G' y v := fun h hx => import1_imp hI h (fun q => hf n (Nat.le_refl _) q) hx hb
  cases x with
  | agg cs =>
    obtain ⟨vs, rfl, h1, hr⟩ := hx
    obtain ⟨⟨ys', u2, n2⟩, hi2⟩ : ∃ q, importL n cs = q := ⟨_, rfl⟩
    simp only [import2, hi2, Prod.mk.injEq] at h
    obtain ⟨rfl, rfl, rfl⟩ := h
    obtain ⟨G2, I2, hy2⟩ := importL_run hI hi2 hf hr hb
    exact ⟨G2, I2, .agg _ _ (by simpa using hy2.1) h1 fun i z u hz hu => hy2.2 i z u hz (by simpa using hu)⟩
  | _ => exact one h hx

theorem importM_run : ∀ {xs : List PV} {vs : List Value} {ys : List PV} {us : List (Nat × Upd)} {n n' : Nat} {bl : List Nat} {G : Ghost} {m : Mem}, InvM P W ps G m w → importM n xs = (ys, us, n') → (∀ k, n ≤ k → k < n' → mget m k = none) → RM P G.H w xs vs bl → Fresh P W ps G m bl →
    ∃ G', Imported P W ps G m w bl us n n' G' ∧ RVs P G' ys vs
  | [], vs, ys, us, n, n', bl, G, m, hI, h, hf, hx, hb => by
    cases vs with
    | cons => exact hx.elim
    | nil =>
      simp only [importM, Prod.mk.injEq] at h
      obtain ⟨rfl, rfl, rfl⟩ := h
      exact ⟨G, .nil hI bl n, rfl, fun i y v hy => by simp at hy⟩
  | x :: xs, vs, ys, us, n, n', bl, G, m, hI, h, hf, hx, hb => by
    cases vs with
    | nil => exact hx.elim
    | cons v vs =>
      obtain ⟨b1, b2, hbl, h1, h2⟩ := hx
      obtain ⟨⟨y, u1, n1⟩, hi1⟩ : ∃ q, import2 n x = q := ⟨_, rfl⟩
      obtain ⟨⟨ys', u2, n2⟩, hi2⟩ : ∃ q, importM n1 xs = q := ⟨_, rfl⟩
      simp only [importM, hi1, hi2, Prod.mk.injEq] at h
      obtain ⟨rfl, rfl, rfl⟩ := h
      have l1 := import2_le hi1
      have l2 := importM_le hi2
      obtain ⟨G1, I1, hy1⟩ := import2_run hI hi1 (fun k a b => hf k a (by omega)) h1 (hb.left hbl)
      obtain ⟨G2, I2, hy2⟩ := importM_run I1.inv hi2 (fun k h1 h2 => by rw [I1.far k h1]; exact hf k (by omega) h2) (by rw [I1.H]; exact h2) (hb.right hbl I1.H I1.un)
      exact ⟨G2, I1.append I2 hbl l2, .cons (hy1.mono I2.ext) hy2⟩

theorem importV_run {x y : PV} {v : Value} {us : List (Nat × Upd)} {n : Nat} {bl : List Nat} (hI : InvM P W ps G m w) (h : importV n x = (y, us)) (hf : ∀ k, n ≤ k → k < n + us.length → mget m k = none) (hx : R3 P G.H w x v bl) (hb : Fresh P W ps G m bl) :
    ∃ G', Ext G G' ∧ InvM P W ps G' (applyAll m us) w ∧ RV P G' y v := by
  have one : ∀ {q : PV × List (Nat × Upd) × Nat}, import2 n x = q → (q.1, q.2.1) = (y, us) → R2 P G.H w x v bl → ∃ G', Ext G G' ∧ InvM P W ps G' (applyAll m us) w ∧ RV P G' y v := by
    rintro ⟨y', us', n'⟩ hq he hx
    simp only [Prod.mk.injEq] at he
    obtain ⟨rfl, rfl⟩ := he
    -- the number of what is imported is known behind the import alone
    have hlen : n' = n + us'.length := by
      have : ∀ (xs : List PV) (n : Nat) (ys : List PV) (us : List (Nat × Upd)) (n' : Nat), importL n xs = (ys, us, n') → n' = n + us.length := by
        intro xs
        induction xs with
        | nil => intro n ys us n' h; simp only [importL, Prod.mk.injEq] at h; obtain ⟨_, rfl, rfl⟩ := h; rfl
        | cons x xs ih =>
          intro n ys us n' h
          obtain ⟨⟨y, u1, n1⟩, hi1⟩ : ∃ q, import1 n x = q := ⟨_, rfl⟩
          obtain ⟨⟨ys', u2, n2⟩, hi2⟩ : ∃ q, importL n1 xs = q := ⟨_, rfl⟩
          simp only [importL, hi1, hi2, Prod.mk.injEq] at h
          obtain ⟨_, rfl, rfl⟩ := h
          have a := ih n1 ys' u2 n2 hi2
          have b : n1 = n + u1.length := by
            cases x <;> simp only [import1, Prod.mk.injEq] at hi1 <;> obtain ⟨_, rfl, rfl⟩ := hi1 <;> rfl
          rw [List.length_append]; omega
      cases x with
      | agg cs =>
        obtain ⟨⟨ys', u2, n2⟩, hi2⟩ : ∃ q, importL n cs = q := ⟨_, rfl⟩
        simp only [import2, hi2, Prod.mk.injEq] at hq
        obtain ⟨_, rfl, rfl⟩ := hq
        exact this cs n _ _ _ hi2
      | _ => simp only [import2, import1, Prod.mk.injEq] at hq; obtain ⟨_, rfl, rfl⟩ := hq; rfl
    obtain ⟨G', I, hy⟩ := import2_run hI hq (fun k a b => hf k a (by omega)) hx hb
    exact ⟨G', I.ext, I.inv, hy⟩
  cases x with
  | tup xs =>
    obtain ⟨vs, rfl, hr⟩ := hx
    obtain ⟨⟨ys', u2, n2⟩, hi2⟩ : ∃ q, importM n xs = q := ⟨_, rfl⟩
    simp only [importV, hi2, Prod.mk.injEq] at h
    obtain ⟨rfl, rfl⟩ := h
    have hlen : n2 = n + u2.length := by
      have : ∀ (xs : List PV) (vs : List Value) (n : Nat) (ys : List PV) (us : List (Nat × Upd)) (n' : Nat), importM n xs = (ys, us, n') → n' = n + us.length := by
        intro xs
        induction xs with
        | nil => intro vs n ys us n' h; simp only [importM, Prod.mk.injEq] at h; obtain ⟨_, rfl, rfl⟩ := h; rfl
        | cons x xs ih =>
          intro vs n ys us n' h
          obtain ⟨⟨y, u1, n1⟩, hi1⟩ : ∃ q, import2 n x = q := ⟨_, rfl⟩
          obtain ⟨⟨ys', u2, n2⟩, hi2⟩ : ∃ q, importM n1 xs = q := ⟨_, rfl⟩
          simp only [importM, hi1, hi2, Prod.mk.injEq] at h
          obtain ⟨_, rfl, rfl⟩ := h
          have a := ih vs n1 ys' u2 n2 hi2
          have b : n1 = n + u1.length := by
            have l1 : ∀ (xs : List PV) (n : Nat) (ys : List PV) (us : List (Nat × Upd)) (n' : Nat), importL n xs = (ys, us, n') → n' = n + us.length := by
              intro xs
              induction xs with
              | nil => intro n ys us n' h; simp only [importL, Prod.mk.injEq] at h; obtain ⟨_, rfl, rfl⟩ := h; rfl
              | cons x xs ih =>
                intro n ys us n' h
                obtain ⟨⟨y, u1, n1⟩, hi1⟩ : ∃ q, import1 n x = q := ⟨_, rfl⟩
                obtain ⟨⟨ys', u2, n2⟩, hi2⟩ : ∃ q, importL n1 xs = q := ⟨_, rfl⟩
                simp only [importL, hi1, hi2, Prod.mk.injEq] at h
                obtain ⟨_, rfl, rfl⟩ := h
                have a := ih n1 ys' u2 n2 hi2
                have b : n1 = n + u1.length := by
                  cases x <;> simp only [import1, Prod.mk.injEq] at hi1 <;> obtain ⟨_, rfl, rfl⟩ := hi1 <;> rfl
                rw [List.length_append]; omega
            cases x with
            | agg cs =>
              obtain ⟨⟨ys3, u3, n3⟩, hi3⟩ : ∃ q, importL n cs = q := ⟨_, rfl⟩
              simp only [import2, hi3, Prod.mk.injEq] at hi1
              obtain ⟨_, rfl, rfl⟩ := hi1
              exact l1 cs n _ _ _ hi3
            | _ => simp only [import2, import1, Prod.mk.injEq] at hi1; obtain ⟨_, rfl, rfl⟩ := hi1; rfl
          rw [List.length_append]; omega
      exact this xs [] n _ _ _ hi2
    obtain ⟨G', I, hy⟩ := importM_run hI hi2 (fun k a b => hf k a (by omega)) hr hb
    exact ⟨G', I.ext, I.inv, .tup _ _ (by simpa using hy.1) fun i z u hz hu => hy.2 i z u hz (by simpa using hu)⟩
  | _ => exact one rfl h hx
end
end Go.Pm

/- Calls: what they come to. -/
namespace Go.Pm
open Go.RowKit

section
variable {P : Program} {W : World} {ps : List Nat} {G : Ghost} {m : Mem} {w : World}

/-- What is handed on, as memory has it. -/
def BL1 (G : Ghost) (m : Mem) (k : Nat) (t : TypeId) (rw : Bool) (h : Hd) : Prop := match rw, h with
  | false, .box t' b => t' = t ∧ G.B k = some b ∧ ∃ x, mget m k = some (.box t x, false)
  | true, .row e v => e = t ∧ G.R k = some v ∧ ∃ E, mget m k = some (.row t E, false)
  | _, _ => False
def BL (G : Ghost) (m : Mem) : List (Nat × TypeId × Bool) → List Hd → Prop
  | [], [] => True
  | (k, t, rw) :: r, h :: hs => BL1 G m k t rw h ∧ BL G m r hs
  | _, _ => False
theorem BL1.blk {G : Ghost} {m : Mem} {k : Nat} {t : TypeId} {rw : Bool} {h : Hd} (hb : BL1 G m k t rw h) : ∃ c, mget m k = some (c, false) ∧ ∀ b, b ∈ h.blocks ↔ Pm.blk G k c = some b := by
  cases rw <;> cases h <;> try exact hb.elim
  · obtain ⟨rfl, h1, x, h2⟩ := hb
    exact ⟨_, h2, fun b => by simp [Hd.blocks, Pm.blk, h1, eq_comm]⟩
  · obtain ⟨rfl, h1, E, h2⟩ := hb
    exact ⟨_, h2, fun b => by simp [Hd.blocks, Pm.blk, h1]⟩

theorem BL.mem : ∀ {bs : List (Nat × TypeId × Bool)} {hs : List Hd}, BL G m bs hs → ∀ b ∈ hs.flatMap Hd.blocks, ∃ k t rw c, (k, t, rw) ∈ bs ∧ mget m k = some (c, false) ∧ blk G k c = some b
  | [], [], _, b, hb => by simp at hb
  | [], _ :: _, h, _, _ => h.elim
  | _ :: _, [], h, _, _ => h.elim
  | (k, t, rw) :: r, h :: hs, hh, c, hc => by
    rw [List.flatMap_cons] at hc
    rcases List.mem_append.1 hc with hc | hc
    · obtain ⟨x, h1, h2⟩ := hh.1.blk
      exact ⟨k, t, rw, x, by simp, h1, (h2 c).1 hc⟩
    · obtain ⟨k', t', rw', x', q1, q2⟩ := BL.mem hh.2 c hc
      exact ⟨k', t', rw', x', List.mem_cons_of_mem _ q1, q2⟩
theorem Hd.nodup (h : Hd) : h.blocks.Nodup := by
  cases h with
  | box t b => simp [Hd.blocks]
  | row e v => simp only [Hd.blocks]; cases v.ownBlock <;> simp
theorem BL.nodup (hI : InvM P W ps G m w) : ∀ {bs : List (Nat × TypeId × Bool)} {hs : List Hd}, BL G m bs hs → nodupB bs = true → (hs.flatMap Hd.blocks).Nodup
  | [], [], _, _ => List.nodup_nil
  | [], _ :: _, h, _ => h.elim
  | _ :: _, [], h, _ => h.elim
  | (k, t, rw) :: r, h :: hs, hh, hn => by
    simp only [nodupB, Bool.and_eq_true] at hn
    rw [List.flatMap_cons]
    refine List.nodup_append.2 ⟨h.nodup, BL.nodup hI hh.2 hn.2, fun b hb b' hb' e => ?_⟩
    subst e
    obtain ⟨x, h1, h2⟩ := hh.1.blk
    obtain ⟨k', t', rw', x', q1, q2, q3⟩ := BL.mem hh.2 b hb'
    have hne : k' ≠ k := by simpa using List.all_eq_true.1 hn.1 (k', t', rw') q1
    exact hI.apart k' k _ _ q2 h1 hne b q3 ((h2 b).1 hb)

theorem argE_alive {rw : Bool} {x y : PV} {l : List Nat} {bs : List (Nat × TypeId × Bool)} (h : argE m rw x = some (y, l, bs)) : ∀ r ∈ l, alive m r := by
  unfold argE at h
  split at h
  · split at h
    · obtain ⟨⟨z, l'⟩, hs, hh⟩ := Option.map_eq_some_iff.1 (bif_some h).2
      simp only [Prod.mk.injEq] at hh
      obtain ⟨_, rfl, _⟩ := hh
      exact share_alive hs
    · cases h
  · split at h
    · rename_i r e E fz hr
      cases rw with
      | true =>
        rw [cond_true] at h
        cases fz with
        | true => cases h
        | false =>
          simp only [cond_false, Option.some.injEq, Prod.mk.injEq] at h
          obtain ⟨_, rfl, _⟩ := h
          simp
      | false =>
        rw [cond_false] at h
        simp only [Option.some.injEq, Prod.mk.injEq] at h
        obtain ⟨_, rfl, _⟩ := h
        intro k hk
        simp only [List.mem_singleton] at hk
        subst hk
        exact ⟨_, _, hr, by simp⟩
    · cases h
  · obtain ⟨⟨z, l'⟩, hs, hh⟩ := Option.map_eq_some_iff.1 h
    simp only [Prod.mk.injEq] at hh
    obtain ⟨_, rfl, _⟩ := hh
    exact share_alive hs
theorem argsE_alive {rw : Bool} : ∀ {xs ys : List PV} {l : List Nat} {bs : List (Nat × TypeId × Bool)}, argsE m rw xs = some (ys, l, bs) → ∀ r ∈ l, alive m r
  | [], ys, l, bs, h => by simp only [argsE, Option.some.injEq, Prod.mk.injEq] at h; obtain ⟨_, rfl, _⟩ := h; simp
  | c :: r, ys, l, bs, h => by
    simp only [argsE] at h
    split at h
    · rename_i h1 h2
      simp only [Option.some.injEq, Prod.mk.injEq] at h
      obtain ⟨_, rfl, _⟩ := h
      intro k hk
      rcases List.mem_append.1 hk with hk | hk
      · exact argE_alive h1 k hk
      · exact argsE_alive h2 k hk
    · cases h

theorem argE_run {G' : Ghost} {m' : Mem} (hI : InvM P W ps G m w) (hI' : InvM P W ps G' m' w) (he : Ext G G') (hf : Frz m m') {rw : Bool} {x y : PV} {v : Value} {l : List Nat} {bs : List (Nat × TypeId × Bool)} (hx : RV P G x v) (h : argE m rw x = some (y, l, bs))
    (hl : ∀ r ∈ l, ∃ c, mget m' r = some (c, true)) (hk : ∀ b ∈ bs, mget m' b.1 = mget m b.1) : ∃ pb, A1 P G'.H w y v pb ∧ BL G m bs (handed [y] [v]) ∧ pb = (handed [y] [v]).flatMap Hd.blocks := by
  have shared : ∀ {z : PV}, Sh P G'.H z v → A1 P G'.H w z v [] ∧ BL G m [] (handed [z] [v]) ∧ [] = (handed [z] [v]).flatMap Hd.blocks := by
    intro z hz
    cases hz with
    | val _ hu => exact ⟨⟨.val _ hu, rfl⟩, trivial, rfl⟩
    | sl e E A c f hc hm hA hS => exact ⟨⟨.sl e E A c f hc hm hA hS, rfl⟩, trivial, rfl⟩
    | agg cs us hl h1 hS => exact ⟨⟨.agg cs us hl h1 hS, rfl⟩, trivial, rfl⟩
    | spt t x b u hx0 hu => exact ⟨⟨.spt t x b u hx0 hu, rfl⟩, trivial, rfl⟩
    | clo f cs us hl hS => exact ⟨⟨.clo f cs us hl hS, rfl⟩, trivial, rfl⟩
    | smap t es b ens clk hb hl hk hv => exact ⟨⟨.smap t es b ens clk hb hl hk hv, rfl⟩, trivial, rfl⟩
  unfold argE at h
  split at h
  · rename_i k off
    split at h
    · rename_i t y0 hm
      obtain ⟨ho, h⟩ := bif_some h
      obtain ⟨⟨z, l'⟩, hs, hh⟩ := Option.map_eq_some_iff.1 h
      simp only [Prod.mk.injEq] at hh
      obtain ⟨rfl, rfl, rfl⟩ := hh
      have ho : off = 0 := by simpa using ho
      subst ho
      obtain ⟨b, hb, rfl⟩ := hx.ptr_inv
      obtain ⟨b', hb', ⟨q, q1, q2, q3, q4, q5⟩, _⟩ : ∃ b, G.B k = some b ∧ BoxOk P G w t y0 b ∧ _ := hI.obj k _ hm
      rw [hb] at hb'
      injection hb' with hb'
      subst hb'
      have hm' := hk (k, t, false) (by simp)
      simp only at hm'
      rw [hm] at hm'
      obtain ⟨b2, hb2, _, hfr⟩ := hI'.obj k _ hm'
      rw [he.B _ _ hb] at hb2
      injection hb2 with hb2
      subst hb2
      exact ⟨[b], ⟨b, q, rfl, share_sh hI hI' he hf q1 hs hl, q2, q3, q4, q5, hfr.2, rfl⟩, ⟨⟨rfl, hb, y0, hm⟩, trivial⟩, rfl⟩
    · cases h
  · rename_i r
    split at h
    · rename_i e E fz hr
      cases rw with
      | true =>
        rw [cond_true] at h
        have hfz : fz = false := by cases fz with | true => cases h | false => rfl
        subst hfz
        simp only [cond_false, Option.some.injEq, Prod.mk.injEq] at h
        obtain ⟨rfl, rfl, rfl⟩ := h
        have hm' := hk (r, e, true) (by simp)
        simp only at hm'
        rw [hr] at hm'
        obtain ⟨v', hv', hrow, hown⟩ := hI'.obj r _ hm'
        have hv := he.R _ _ hx.ref_inv
        rw [hv'] at hv
        injection hv with hv
        subst hv
        exact ⟨v'.ownBlock.toList, ⟨hrow, fun b hb => (hown b (by simpa using hb)).2, rfl⟩, ⟨⟨rfl, hx.ref_inv, E, hr⟩, trivial⟩, by simp [handed, Hd.blocks]⟩
      | false =>
        rw [cond_false] at h
        simp only [Option.some.injEq, Prod.mk.injEq] at h
        obtain ⟨rfl, rfl, rfl⟩ := h
        exact ⟨[], shared (elems_sh hI hI' he hf hx (by simp only [elems, hr]) hl)⟩
    · cases h
  · obtain ⟨⟨z, l'⟩, hs, hh⟩ := Option.map_eq_some_iff.1 h
    simp only [Prod.mk.injEq] at hh
    obtain ⟨rfl, rfl, rfl⟩ := hh
    exact ⟨[], shared (share_sh hI hI' he hf hx hs hl)⟩

theorem handed_cons (y : PV) (v : Value) (ys : List PV) (vs : List Value) : handed (y :: ys) (v :: vs) = handed [y] [v] ++ handed ys vs := by cases y <;> rfl
theorem BL.append : ∀ {b1 b2 : List (Nat × TypeId × Bool)} {p1 p2 : List Hd}, BL G m b1 p1 → BL G m b2 p2 → BL G m (b1 ++ b2) (p1 ++ p2)
  | [], b2, [], p2, _, h => h
  | [], _, _ :: _, _, h, _ => h.elim
  | _ :: _, _, [], _, h, _ => h.elim
  | (k, t, rw) :: r, b2, b :: bs, p2, h, h' => ⟨h.1, BL.append h.2 h'⟩

theorem argsE_run {G' : Ghost} {m' : Mem} (hI : InvM P W ps G m w) (hI' : InvM P W ps G' m' w) (he : Ext G G') (hf : Frz m m') {rw : Bool} : ∀ {xs ys : List PV} {vs : List Value} {l : List Nat} {bs : List (Nat × TypeId × Bool)}, RVs P G xs vs → argsE m rw xs = some (ys, l, bs) →
    (∀ r ∈ l, ∃ c, mget m' r = some (c, true)) → (∀ b ∈ bs, mget m' b.1 = mget m b.1) → AL P G'.H w ys vs ((handed ys vs).flatMap Hd.blocks) ∧ BL G m bs (handed ys vs)
  | [], ys, vs, l, bs, hx, h, hl, hk => by
    simp only [argsE, Option.some.injEq, Prod.mk.injEq] at h
    obtain ⟨rfl, rfl, rfl⟩ := h
    have : vs = [] := List.length_eq_zero_iff.1 hx.1
    subst this
    exact ⟨rfl, trivial⟩
  | x :: xs, ys, vs, l, bs, hx, h, hl, hk => by
    simp only [argsE] at h
    split at h
    · rename_i y1 l1 b1 ys1 l2 b2 h1 h2
      simp only [Option.some.injEq, Prod.mk.injEq] at h
      obtain ⟨rfl, rfl, rfl⟩ := h
      cases vs with
      | nil => cases hx.1
      | cons v vs =>
        obtain ⟨p1, a1, c1, rfl⟩ := argE_run hI hI' he hf (hx.2 0 x v rfl rfl) h1 (fun r hr => hl r (List.mem_append.2 (.inl hr))) (fun b hb => hk b (List.mem_append.2 (.inl hb)))
        obtain ⟨a2, c2⟩ := argsE_run hI hI' he hf (xs := xs) (vs := vs) ⟨by simpa using hx.1, fun i z u hz hu => hx.2 (i + 1) z u (by simpa using hz) (by simpa using hu)⟩ h2
          (fun r hr => hl r (List.mem_append.2 (.inr hr))) (fun b hb => hk b (List.mem_append.2 (.inr hb)))
        rw [handed_cons]
        exact ⟨⟨_, _, List.flatMap_append, a1, a2⟩, c1.append c2⟩
    · cases h

/-- What lies behind the call in what was handed on. -/
def After (P : Program) (H : Sharing) (w : World) (G : Ghost) (k : Nat) : Cont → Prop
  | .box t y => ∃ b, G.B k = some b ∧ OutB P H w t y b
  | .row e E => ∃ v, G.R k = some v ∧ RowOk P H w e E v
  | .mp _ _ => False
  | .gone _ => False
  | .dead => True
theorem out_after {H : Sharing} {w' : World} {k : Nat} {t : TypeId} {rw : Bool} {h : Hd} {y : PV} {c : Cont} (hb : BL1 G m k t rw h) (ho : Out1 P H w' y h) (hc : outC t rw y = some c) :
    After P H w' G k c ∧ (∀ b, blk G k c = some b → b ∈ h.blocks) ∧ (∀ b, b ∈ deadB [y] [h] → c = .dead ∧ b ∈ h.blocks) := by
  cases rw with
  | false =>
    cases h with
    | row => exact hb.elim
    | box t' b =>
      obtain ⟨rfl, h1, x, h2⟩ := hb
      simp only [outC, Option.some.injEq] at hc
      subst hc
      refine ⟨⟨b, h1, ho⟩, fun b' hb' => ?_, fun b' hb' => ?_⟩
      · simp only [blk, h1, Option.some.injEq] at hb'; subst hb'; simp [Hd.blocks]
      · have : deadB [y] [Hd.box t' b] = [] := by cases y <;> rfl
        rw [this] at hb'
        cases hb'
  | true =>
    cases h with
    | box => exact hb.elim
    | row e v =>
      obtain ⟨rfl, h1, E, h2⟩ := hb
      cases y with
      | row e' E' =>
        obtain ⟨rfl, hr⟩ := ho
        simp only [outC, beq_self_eq_true, cond_true, Option.some.injEq] at hc
        subst hc
        refine ⟨⟨v, h1, hr⟩, fun b' hb' => ?_, fun b' hb' => by simp [deadB] at hb'⟩
        simpa [blk, h1, Hd.blocks] using hb'
      | junk =>
        simp only [outC, Option.some.injEq] at hc
        subst hc
        exact ⟨trivial, fun b hb => (by cases hb), fun b hb => ⟨rfl, by simpa [deadB, Hd.blocks] using hb⟩⟩
      | _ => cases hc

theorem deadB_cons (y : PV) (h : Hd) (ys : List PV) (hs : List Hd) : deadB (y :: ys) (h :: hs) = deadB [y] [h] ++ deadB ys hs := by simp [deadB]

theorem outsE_mget {H : Sharing} {w' : World} : ∀ {bs : List (Nat × TypeId × Bool)} {outs : List PV} {ups : List (Nat × Upd)} {hs : List Hd} {m : Mem}, outsE bs outs = some ups → BL G m bs hs → nodupB bs = true → OL P H w' outs hs →
    (∀ k, (∀ t, (k, t) ∉ bs) → mget (applyAll m ups) k = mget m k) ∧
    (∀ k t, (k, t) ∈ bs → ∃ c c', mget m k = some (c, false) ∧ mget (applyAll m ups) k = some (c', false) ∧ After P H w' G k c' ∧ (∀ b, blk G k c' = some b → blk G k c = some b) ∧ (∀ b, blk G k c = some b → b ∈ hs.flatMap Hd.blocks)) ∧
    (∀ b ∈ deadB outs hs, ∃ k t c, (k, t) ∈ bs ∧ mget m k = some (c, false) ∧ blk G k c = some b ∧ mget (applyAll m ups) k = some (.dead, false))
  | [], outs, ups, hs, m, h, hb, hn, ho => by
    cases outs with
    | cons => cases h
    | nil =>
      simp only [outsE, Option.some.injEq] at h
      subst h
      exact ⟨fun _ _ => rfl, by simp, by cases hs <;> simp [deadB]⟩
  | (k, t, rw) :: r, outs, ups, hs, m, h, hb, hn, ho => by
    cases outs with
    | nil => cases h
    | cons y ys =>
      cases hs with
      | nil => exact hb.elim
      | cons hd hs =>
        simp only [outsE] at h
        split at h
        · rename_i c' us hc' hus
          injection h with h
          subst h
          obtain ⟨h1, h3⟩ := hb
          obtain ⟨c0, h2, hblk⟩ := h1.blk
          simp only [nodupB, Bool.and_eq_true] at hn
          obtain ⟨hu, ho⟩ := ho
          have hne : ∀ k' t', (k', t') ∈ r → k' ≠ k := fun k' t' hm => by simpa using List.all_eq_true.1 hn.1 (k', t') hm
          have hap : applyUpd m (k, .cont c') = mset m k (c', false) := by simp [applyUpd, h2]
          have hbl : ∀ {r : List (Nat × TypeId × Bool)} {pb : List Hd}, (∀ k' t', (k', t') ∈ r → k' ≠ k) → BL G m r pb → BL G (mset m k (c', false)) r pb := by
            intro r
            induction r with
            | nil => intro pb _ h; cases pb <;> exact h
            | cons a r ih =>
              intro pb hne h
              obtain ⟨ka, ta, wa⟩ := a
              cases pb with
              | nil => exact h.elim
              | cons c pb =>
                refine ⟨?_, ih (fun k' t' hm => hne k' t' (List.mem_cons_of_mem _ hm)) h.2⟩
                have hsame : mget (mset m k (c', false)) ka = mget m ka := by rw [mget_mset, if_neg (Ne.symm (hne ka (ta, wa) (by simp)))]
                have h1 := h.1
                cases wa <;> cases c <;> first | exact h1.elim | (obtain ⟨q1, q2, x, q3⟩ := h1; exact ⟨q1, q2, x, hsame.trans q3⟩)
          obtain ⟨i1, i2, i3⟩ := outsE_mget hus (hbl hne h3) hn.2 ho
          obtain ⟨a1, a2, a3⟩ := out_after h1 hu hc'
          have hkk : mget (applyAll m ((k, .cont c') :: us)) k = some (c', false) := by
            rw [applyAll_cons, hap, i1 k (fun t' ht' => hne k t' ht' rfl), mget_mset, if_pos rfl, h2]
            rfl
          refine ⟨fun k' hk' => ?_, fun k' t' hk' => ?_, fun b hb' => ?_⟩
          · have hkk : k' ≠ k := fun e => hk' (t, rw) (by simp [e])
            rw [applyAll_cons, hap, i1 k' (fun t' ht' => hk' t' (by simp [ht'])), mget_mset, if_neg (Ne.symm hkk)]
          · rcases List.mem_cons.1 hk' with e | hk'
            · simp only [Prod.mk.injEq] at e
              obtain ⟨rfl, _⟩ := e
              exact ⟨c0, c', h2, hkk, a1, fun b hb' => (hblk b).1 (a2 b hb'), fun b hb' => by rw [List.flatMap_cons]; exact List.mem_append.2 (.inl ((hblk b).2 hb'))⟩
            · obtain ⟨c, c2, q1, q2, q3, q4, q5⟩ := i2 k' t' hk'
              rw [mget_mset, if_neg (Ne.symm (hne k' t' hk'))] at q1
              exact ⟨c, c2, q1, by rw [applyAll_cons, hap]; exact q2, q3, q4, fun b hb' => by rw [List.flatMap_cons]; exact List.mem_append.2 (.inr (q5 b hb'))⟩
          · rw [deadB_cons] at hb'
            rcases List.mem_append.1 hb' with hb' | hb'
            · obtain ⟨e1, e2⟩ := a3 b hb'
              subst e1
              exact ⟨k, (t, rw), c0, by simp, h2, (hblk b).1 e2, hkk⟩
            · obtain ⟨k', t', c, q1, q2, q3, q4⟩ := i3 b hb'
              rw [mget_mset, if_neg (Ne.symm (hne k' t' q1))] at q2
              exact ⟨k', t', c, List.mem_cons_of_mem _ q1, q2, q3, by rw [applyAll_cons, hap]; exact q4⟩
        · cases h

/-- Behind the call: what was handed on holds what it holds then, all else is as it was. -/
theorem afterCall (hI : InvM P W ps G m w) {H' : Sharing} {w' : World} {bs : List (Nat × TypeId × Bool)} {outs : List PV} {ups : List (Nat × Upd)} {hs : List Hd} (ho : outsE bs outs = some ups) (hb : BL G m bs hs) (hn : nodupB bs = true)
    (hol : OL P H' w' outs hs) (hH : ∀ b cs, G.H b = some cs → H' b = some cs) (hN : ∀ b cs, H' b = some cs → G.H b = none → w.heap.size ≤ b ∨ b ∈ deadB outs hs) (hk : HOk H' w')
    (hbase : w'.os = w.os ∧ w'.tape = w.tape ∧ w'.output = w.output ∧ w.heap.size ≤ w'.heap.size) (hw : ∀ b, b < w.heap.size → b ∉ hs.flatMap Hd.blocks → w'.heap[b]? = w.heap[b]?) :
    Ext G { G with H := H' } ∧ InvM P W ps { G with H := H' } (applyAll m ups) w' ∧ (∀ k, mget m k = none → mget (applyAll m ups) k = none) ∧
      ∀ b, (w.heap.size ≤ b ∨ b ∈ deadB outs hs) → (W.heap.size ≤ b ∨ b ∈ ps) ∧ Untracked { G with H := H' } (applyAll m ups) b := by
  obtain ⟨i1, i2, i3⟩ := outsE_mget ho hb hn hol
  have he : Ext G { G with H := H' } := ⟨hH, fun _ _ h => h, fun _ _ h => h, rfl⟩
  have cases' : ∀ k, (∀ t, (k, t) ∉ bs) ∨ ∃ t, (k, t) ∈ bs := fun k => by
    by_cases h : ∃ t, (k, t) ∈ bs
    · exact .inr h
    · exact .inl fun t ht => h ⟨t, ht⟩
  have hback : ∀ j d, mget (applyAll m ups) j = some (d, false) → ∃ d0, mget m j = some (d0, false) ∧ ∀ b, blk { G with H := H' } j d = some b → blk G j d0 = some b := by
    intro j d hj
    rcases cases' j with hj' | ⟨t, hj'⟩
    · rw [i1 j hj'] at hj
      exact ⟨d, hj, fun b hbb => by rw [← (hI.obj j _ hj).blk_ext he]; exact hbb⟩
    · obtain ⟨c, c', q1, q2, _, q4, _⟩ := i2 j t hj'
      rw [q2] at hj
      injection hj with hj
      injection hj with hj _
      subst hj
      exact ⟨_, q1, fun b hbb => q4 b (by cases c' <;> exact hbb)⟩
  refine ⟨he, ?_, fun k hk0 => ?_, fun b hb' => ?_⟩
  · refine hI.go he hbase (fun k => ∃ t, (k, t) ∈ bs) ?_ ?_ ?_ ?_ ?_ ?_ ?_ ?_ ?_
    · intro k hk'; exact i1 k fun t ht => hk' ⟨t, ht⟩
    · intro k o hk'
      rcases cases' k with h | ⟨t, h⟩
      · exact ⟨o, by rw [i1 k h]; exact hk'⟩
      · obtain ⟨_, _, _, q2, _⟩ := i2 k t h; exact ⟨_, q2⟩
    · intro b hlt hnt
      refine hw b hlt fun hbp => ?_
      obtain ⟨k, t, rw, c, q1, q2, q3⟩ := hb.mem b hbp
      exact hnt k _ ⟨_, q1⟩ q2 q3
    · intro b cs h1 h2
      rcases hN b cs h1 h2 with h | h
      · exact .inl h
      · obtain ⟨k, t, c, q1, q2, q3, _⟩ := i3 b h
        exact .inr ⟨k, c, ⟨_, q1⟩, q2, q3⟩
    · intro b cs h1 _; exact hk b cs h1
    · rintro k o ⟨t, ht⟩ hk'
      obtain ⟨c, c', q1, q2, q3, q4, q5⟩ := i2 k t ht
      rw [q2] at hk'
      injection hk' with hk'
      subst hk'
      have hnone : ∀ b, blk G k c' = some b → (W.heap.size ≤ b ∨ b ∈ ps) ∧ H' b = none := fun b hbb => by
        have := (hI.obj k _ q1).base (q4 b hbb)
        refine ⟨this.1, ?_⟩
        cases hc : H' b with
        | none => rfl
        | some cs =>
          exfalso
          rcases hN b cs hc this.2.1 with h | h
          · have := this.2.2; omega
          · obtain ⟨k', t', c2, p1, p2, p3, p4⟩ := i3 b h
            by_cases hkk : k' = k
            · subst hkk
              rw [q2] at p4
              injection p4 with p4
              injection p4 with p4 _
              subst p4
              cases hbb
            · exact hI.apart k' k c2 c p2 q1 hkk b p3 (q4 b hbb)
      cases c' with
      | box t y =>
        obtain ⟨b, hB, u, u1, u2, u3, u4, u5⟩ := q3
        exact ⟨b, hB, ⟨u, .sh u1, u2, u3, u4, u5⟩, hnone b (by simp [blk, hB])⟩
      | row e E =>
        obtain ⟨v, hR, hrow⟩ := q3
        exact ⟨v, hR, hrow, fun b hbb => hnone b (by simp [blk, hR, hbb])⟩
      | mp t es => exact q3.elim
      | gone n => exact q3.elim
      | dead => trivial
    · rintro i j c d _ hi hj hne b hbi hbj
      obtain ⟨c0, hc0, e1⟩ := hback i c hi
      obtain ⟨d0, hd0, e2⟩ := hback j d hj
      exact hI.apart i j c0 d0 hc0 hd0 hne b (e1 b hbi) (e2 b hbj)
    · intro r v h1 h2; rw [show ({ G with H := H' } : Ghost).R = G.R from rfl, h2] at h1; cases h1
    · intro r v h1 h2; rw [show ({ G with H := H' } : Ghost).B = G.B from rfl, h2] at h1; cases h1
  · rcases cases' k with h | ⟨t, h⟩
    · rw [i1 k h, hk0]
    · obtain ⟨_, _, q1, _⟩ := i2 k t h; rw [hk0] at q1; cases q1
  · rcases hb' with hb' | hb'
    · refine ⟨.inl (Nat.le_trans hI.size hb'), fun j d hj hbj => ?_⟩
      obtain ⟨d0, hd0, e2⟩ := hback j d hj
      have := blk_lt hI hd0 (e2 b hbj)
      omega
    · obtain ⟨k, t, c, q1, q2, q3, q4⟩ := i3 b hb'
      refine ⟨((hI.obj k _ q2).base q3).1, fun j d hj hbj => ?_⟩
      obtain ⟨d0, hd0, e2⟩ := hback j d hj
      by_cases hjk : j = k
      · subst hjk
        rw [q4] at hj
        injection hj with hj
        injection hj with hj _
        subst hj
        cases hbj
      · exact hI.apart j k d0 c hd0 q2 hjk b (e2 b hbj) q3

/-! ### What is clean -/
theorem Sh.of_clean1 {H H' : Sharing} {x : PV} {v : Value} (h : Sh P H x v) (hc : flat1 x = true) : Sh P H' x v := by
  cases h with
  | val v h => exact .val v h
  | _ => cases hc
theorem R1.of_clean {H H' : Sharing} {w : World} {x : PV} {v : Value} {bl : List Nat} (h : R1 P H w x v bl) (hc : clean1 x = true) : R1 P H' w x v bl := by
  unfold clean1 at hc
  split at hc
  · exact ⟨Sh.of_clean1 h.1 rfl, h.2⟩
  · obtain ⟨⟨us, h1, h2, h3⟩, h4⟩ := h
    exact ⟨⟨us, h1, fun i u hu => ⟨Sh.of_clean1 (h2 i u hu).1 rfl, (h2 i u hu).2⟩, h3⟩, h4⟩
  · cases hc
theorem RL.of_clean {H H' : Sharing} {w : World} : ∀ {xs : List PV} {vs : List Value} {bl : List Nat}, RL P H w xs vs bl → xs.all clean1 = true → RL P H' w xs vs bl
  | [], [], _, h, _ => h
  | [], _ :: _, _, h, _ => h.elim
  | _ :: _, [], _, h, _ => h.elim
  | x :: xs, v :: vs, _, h, hc => by
    obtain ⟨b1, b2, e, h1, h2⟩ := h
    simp only [List.all_cons, Bool.and_eq_true] at hc
    exact ⟨b1, b2, e, h1.of_clean hc.1, RL.of_clean h2 hc.2⟩
theorem R2_eq {H : Sharing} {w : World} {x : PV} (h : ∀ cs, x ≠ .agg cs) (v : Value) (bl : List Nat) : R2 P H w x v bl = R1 P H w x v bl := by
  cases x with
  | agg cs => exact absurd rfl (h cs)
  | _ => rfl
theorem R3_eq {H : Sharing} {w : World} {x : PV} (h : ∀ cs, x ≠ .agg cs) (h' : ∀ cs, x ≠ .tup cs) (v : Value) (bl : List Nat) : R3 P H w x v bl = R1 P H w x v bl := by
  cases x with
  | agg cs => exact absurd rfl (h cs)
  | tup cs => exact absurd rfl (h' cs)
  | _ => rfl
theorem R2.of_clean {H H' : Sharing} {w : World} {x : PV} {v : Value} {bl : List Nat} (h : R2 P H w x v bl) (hc : clean1 x = true) : R2 P H' w x v bl := by
  have hn : ∀ cs, x ≠ .agg cs := fun cs e => by subst e; cases hc
  rw [R2_eq hn] at h ⊢
  exact h.of_clean hc
theorem RM.of_clean {H H' : Sharing} {w : World} : ∀ {xs : List PV} {vs : List Value} {bl : List Nat}, RM P H w xs vs bl → xs.all clean1 = true → RM P H' w xs vs bl
  | [], [], _, h, _ => h
  | [], _ :: _, _, h, _ => h.elim
  | _ :: _, [], _, h, _ => h.elim
  | x :: xs, v :: vs, _, h, hc => by
    obtain ⟨b1, b2, e, h1, h2⟩ := h
    simp only [List.all_cons, Bool.and_eq_true] at hc
    exact ⟨b1, b2, e, h1.of_clean hc.1, RM.of_clean h2 hc.2⟩
theorem R3.of_clean {H H' : Sharing} {w : World} {x : PV} {v : Value} {bl : List Nat} (h : R3 P H w x v bl) (hc : clean x = true) : R3 P H' w x v bl := by
  by_cases h1 : ∃ cs, x = .agg cs
  · obtain ⟨cs, rfl⟩ := h1
    obtain ⟨us, h1, h2, h3⟩ := h
    exact ⟨us, h1, h2, RL.of_clean h3 hc⟩
  by_cases h2 : ∃ cs, x = .tup cs
  · obtain ⟨cs, rfl⟩ := h2
    obtain ⟨us, h1, h3⟩ := h
    exact ⟨us, h1, RM.of_clean h3 hc⟩
  have n1 : ∀ cs, x ≠ .agg cs := fun cs e => h1 ⟨cs, e⟩
  have n2 : ∀ cs, x ≠ .tup cs := fun cs e => h2 ⟨cs, e⟩
  rw [R3_eq n1 n2] at h ⊢
  refine h.of_clean ?_
  cases x with
  | agg cs => exact absurd rfl (n1 cs)
  | tup cs => exact absurd rfl (n2 cs)
  | _ => exact hc
theorem Out1.of_flat {H H' : Sharing} {w : World} {y : PV} {h : Hd} (ho : Out1 P H w y h) (hc : flatOut y = true) : Out1 P H' w y h := by
  cases h with
  | box t b =>
    obtain ⟨u, u1, u2⟩ := ho
    refine ⟨u, ?_, u2⟩
    cases y with
    | agg cs =>
      cases u1 with
      | agg _ us hl h1 hS => exact .agg cs us hl h1 fun i x u hx hu => Sh.of_clean1 (hS i x u hx hu) (List.all_eq_true.1 hc x (List.mem_of_getElem? hx))
    | row e E => cases u1
    | junk => cases u1
    | _ => exact Sh.of_clean1 u1 (by exact hc)
  | row e v =>
    cases y with
    | row e' E' =>
      cases E' with
      | ints k l =>
        obtain ⟨rfl, us, h1, h2, h3⟩ := ho
        exact ⟨rfl, us, h1, fun i u hu => ⟨Sh.of_clean1 (h2 i u hu).1 rfl, (h2 i u hu).2⟩, h3⟩
      | els l => cases hc
    | junk => trivial
    | _ => exact ho.elim
theorem OL.of_flat {H H' : Sharing} {w : World} : ∀ {ys : List PV} {hs : List Hd}, OL P H w ys hs → ys.all flatOut = true → OL P H' w ys hs
  | [], [], h, _ => h
  | [], _ :: _, h, _ => h.elim
  | _ :: _, [], h, _ => h.elim
  | y :: ys, d :: hs, h, hc => by
    simp only [List.all_cons, Bool.and_eq_true] at hc
    exact ⟨h.1.of_flat hc.1, OL.of_flat h.2 hc.2⟩

/-- A call. -/
theorem callE1_run {T : FuncId → List PV → Option (PV × List PV)} (hT : TableOk P T) {d : Option Tmp} {f : FuncId} {args : List PV} {e : Eff} {vals : Array Value} {rw : Bool} (hf0 : f < 1000000) (hI : InvM P W ps G m w) (h : callE1 T m d rw f args = some e)
    (hf : ∀ j, j < e.fresh → mget m (idOf d + j) = none) (hx : RVs P G args vals.toList) :
    e.chk = true ∧ Entered P f ∧ Calls P f vals w fun e' w' => ∃ v, e' = .returned v ∧ Done P W ps G m e v w' := by
  unfold callE1 at h
  split at h
  · rename_i xs l bs ha
    split at h
    · rename_i r outs ht
      split at h
      · rename_i ups hups
        obtain ⟨hc, h⟩ := bif_some h
        injection h with h
        subst h
        simp only [Bool.and_eq_true, List.all_eq_true] at hc
        obtain ⟨⟨hnd, hlb⟩, h16⟩ := hc
        have h16 := Nat.le_of_ble_eq_true h16
        have hcon := hT f xs r outs hf0 ht
        refine ⟨rfl, hcon.1, ?_⟩
        obtain ⟨G1, he1, hI1, hf1, hl1, hn1, hR1, hB1⟩ := hI.freezeAll l (argsE_alive ha)
        have hkeep : ∀ b ∈ bs, mget (applyAll m (freezes l)) b.1 = mget m b.1 := fun b hb => hn1 b.1 fun hm => by
          have := hlb b.1 hm b hb
          simp at this
        obtain ⟨hAL, hBL⟩ := argsE_run hI hI1 he1 hf1 hx ha hl1 hkeep
        have hBL1 : BL G1 (applyAll m (freezes l)) bs (handed xs vals.toList) := by
          have : ∀ {bs : List (Nat × TypeId × Bool)} {hs : List Hd}, (∀ b ∈ bs, mget (applyAll m (freezes l)) b.1 = mget m b.1) → BL G m bs hs → BL G1 (applyAll m (freezes l)) bs hs := by
            intro bs
            induction bs with
            | nil => intro hs _ h; cases hs <;> exact h
            | cons a bs ih =>
              intro hs hk h
              obtain ⟨ka, ta, wa⟩ := a
              cases hs with
              | nil => exact h.elim
              | cons c hs =>
                refine ⟨?_, ih (fun b hb => hk b (List.mem_cons_of_mem _ hb)) h.2⟩
                have hsame := hk (ka, ta, wa) (by simp)
                simp only at hsame
                have h1 := h.1
                cases wa <;> cases c <;> first
                  | exact h1.elim
                  | (obtain ⟨q1, q2, x, q3⟩ := h1; exact ⟨q1, he1.B _ _ q2, x, hsame.trans q3⟩)
                  | (obtain ⟨q1, q2, x, q3⟩ := h1; exact ⟨q1, he1.R _ _ q2, x, hsame.trans q3⟩)
          exact this hkeep hBL
        refine (hcon.2 w G1.H vals _ hI1.shared hAL (hBL.nodup hI hnd)).mono ?_
        rintro e' w' ⟨v, H', bl, rfl, c1, c2, c3, c4, c5, c6, c7, c8, c9⟩
        refine ⟨v, rfl, ?_⟩
        obtain ⟨⟨y, us⟩, hi⟩ : ∃ q, importV (idOf d) r = q := ⟨_, rfl⟩
        simp only [hi] at hf
        rw [hi] at h16 ⊢
        simp only at h16
        have hfree : ∀ {m' : Mem}, (∀ k, mget m k = none → mget m' k = none) → ∀ k, idOf d ≤ k → k < idOf d + us.length → mget m' k = none := by
          intro m' hm' k h1 h2
          have := hf (k - idOf d) (by omega)
          rw [show idOf d + (k - idOf d) = k by omega] at this
          exact hm' k this
        by_cases hcl : (clean r && outs.all flatOut) = true
        · simp only [Bool.and_eq_true] at hcl
          have c6' : R3 P G.H w' r v bl := c6.of_clean hcl.1
          have c9' : OL P G.H w' outs (handed xs vals.toList) := OL.of_flat c9 hcl.2
          have hHk : HOk G.H w' := fun b cs hcs => c3 b cs (c1 b cs (he1.H b cs hcs))
          obtain ⟨a1, a2, a3, a4⟩ := afterCall hI hups hBL hnd c9' (fun _ _ h => h) (fun b cs h1 h2 => by rw [h1] at h2; cases h2) hHk c4 c5
          have hG : ({ G with H := G.H } : Ghost) = G := rfl
          rw [hG] at a2 a4
          have hnew : ∀ b ∈ bl, G.H b = none := fun b hb => by
            cases hg : G.H b with
            | none => rfl
            | some cs =>
              have := c1 b cs (he1.H b cs hg)
              rw [(c8 b hb).2.2] at this
              cases this
          obtain ⟨G3, d1, d2, d3⟩ := importV_run a2 hi (hfree a3) c6' ⟨c7, fun b hb => ⟨(a4 b (c8 b hb).1).1, hnew b hb, (a4 b (c8 b hb).1).2⟩⟩
          refine ⟨G3, d1, ?_, d3⟩
          simp only [hcl.1, hcl.2, Bool.and_self, cond_true, List.nil_append, applyAll_append]
          exact d2
        · have hcl : (clean r && outs.all flatOut) = false := by simpa using hcl
          obtain ⟨a1, a2, a3, a4⟩ := afterCall hI1 hups hBL1 hnd c9 c1 c2 c3 c4 c5
          obtain ⟨G3, d1, d2, d3⟩ := importV_run a2 hi (hfree fun k hk => a3 k (hf1.none hk)) c6 ⟨c7, fun b hb => ⟨(a4 b (c8 b hb).1).1, (c8 b hb).2.2, (a4 b (c8 b hb).1).2⟩⟩
          refine ⟨G3, (he1.trans a1).trans d1, ?_, d3⟩
          simp only [hcl, cond_false, applyAll_append]
          exact d2
      · cases h
    · cases h
  · cases h
theorem callE_run {T : FuncId → List PV → Option (PV × List PV)} (hT : TableOk P T) {d : Option Tmp} {f : FuncId} {args : List PV} {e : Eff} {vals : Array Value} (hI : InvM P W ps G m w) (h : callE T m d f args = some e)
    (hf : ∀ j, j < e.fresh → mget m (idOf d + j) = none) (hx : RVs P G args vals.toList) :
    e.chk = true ∧ Entered P f ∧ Calls P f vals w fun e' w' => ∃ v, e' = .returned v ∧ Done P W ps G m e v w' := by
  obtain ⟨hf0, h⟩ := bif_some h
  rw [Nat.blt_eq] at hf0
  exact callE1_run hT hf0 hI h hf hx
end
end Go.Pm

/- One operation: its effect, and what it comes to. -/
namespace Go.Pm
open Go.RowKit

section
variable (P : Program) (T : FuncId → List PV → Option (PV × List PV)) (s : List PV) (m : Mem) (d : Option Tmp)
def withC (c : Bool) (e : Option Eff) : Option Eff := e.map fun e => { e with chk := c && e.chk }
def withF (e : Option Eff) : Option Eff := e.map fun e => { e with fresh := 1 }
def optV : Option Operand → Option PV × Bool
  | none => (none, true)
  | some x => (some (opnd s x).1, (opnd s x).2)
def argsV : List Operand → List PV × Bool
  | [] => ([], true)
  | x :: r => ((opnd s x).1 :: (argsV r).1, (opnd s x).2 && (argsV r).2)
def knownE (t : TypeId) : Bool := match P.underlying t with
  | some (.slice d) => (P.info? d).isSome
  | _ => true
def knownT (t : TypeId) : Bool := (P.underlying t).isSome
def knownF (t : TypeId) (f : Nat) : Bool := match fieldOff P t f with
  | some (_, ft) => knownT P ft
  | none => false
def minE : PV → PV → Option Eff
  | .val (.int k a), .val (.int k' b) => bif decide (k = k') then some { v := .val (.int k (bif decide (b < a) then b else a)) } else none
  | _, _ => none
def maxE : PV → PV → Option Eff
  | .val (.int k a), .val (.int k' b) => bif decide (k = k') then some { v := .val (.int k (bif decide (b > a) then b else a)) } else none
  | _, _ => none
def idxE (t : TypeId) (x ix : PV) : Option Eff := match P.underlying t, x, ix with
  | some (.array n e), .agg cs, .val (.int _ i) => bif knownT P e then (partT P e cs (i.toNat * sizeT P e)).map fun v => { chk := decide (0 ≤ i) && decide (i < n), v := v } else none
  | some .string, .val (.string b), .val (.int _ i) => (b.data.toList[i.toNat]?).map fun u => { chk := decide (0 ≤ i), v := .val (.int .u8 u.toNat) }
  | _, _, _ => none
def callV (f : PV) (args : List PV) : Option Eff := match f with
  | .val (.func (.func f) _ _) => callE T m d f args
  | .clo f caps => callE T m d f (args ++ caps)
  | _ => none
def callOp (c : Call) : Option Eff := match c.callee with
  | .builtin .append => match c.args.toList, c.argTypes.toList with
    | [x, y], [t, t'] => bif t == t' then withC ((opnd s x).2 && (opnd s y).2) (withF (appendE P m d t (opnd s x).1 (opnd s y).1)) else
        bif (intT P t').isSome then withC ((opnd s x).2 && (opnd s y).2) (withF (appendZE P m d t (opnd s x).1 (opnd s y).1)) else none
    | _, _ => none
  | .builtin .copy => match c.args.toList, c.argTypes.toList with
    | [x, y], [t, _] => bif knownE P t then withC ((opnd s x).2 && (opnd s y).2) (copyE P m t (opnd s x).1 (opnd s y).1) else none
    | _, _ => none
  | .builtin .clear => match c.args.toList, c.argTypes.toList with
    | [x], [t] => withC (opnd s x).2 (clearE P m t (opnd s x).1)
    | _, _ => none
  | .builtin .len => match c.args.toList, c.argTypes.toList with
    | [x], [t] => withC (opnd s x).2 (lenE P m t (opnd s x).1)
    | _, _ => none
  | .builtin .cap => match c.args.toList, c.argTypes.toList with
    | [x], [t] => withC (opnd s x).2 (capE P t (opnd s x).1)
    | _, _ => none
  | .builtin .min => match c.args.toList with
    | [x, y] => withC ((opnd s x).2 && (opnd s y).2) (minE (opnd s x).1 (opnd s y).1)
    | _ => none
  | .builtin .max => match c.args.toList with
    | [x, y] => withC ((opnd s x).2 && (opnd s y).2) (maxE (opnd s x).1 (opnd s y).1)
    | _ => none
  | .value x => withC ((opnd s x).2 && (argsV s c.args.toList).2) (callV T m d (opnd s x).1 (argsV s c.args.toList).1)
  | _ => none
def opE : Op → Option Eff
  | .move x => some { chk := (opnd s x).2, v := (opnd s x).1 }
  | .assign x => some { chk := (opnd s x).2, v := (opnd s x).1 }
  | .pick c a b => withC (opnd s c).2 (pickE (opnd s c).1 (opnd s a).1 (opnd s b).1 (opnd s a).2 (opnd s b).2)
  | .alloc t => withF (allocE P d t)
  | .box t x => withC (opnd s x).2 (withF (boxE P d t (opnd s x).1))
  | .build t ps => withC (partsV s ps.toList).2 (buildE P t (partsV s ps.toList).1)
  | .buildSlice t n ps => withC (partsV s ps.toList).2 (withF (buildSliceE P m d t n (partsV s ps.toList).1))
  | .load t a => bif knownT P t then withC (opnd s a).2 (loadE P m t (opnd s a).1) else none
  | .store t a x => withC ((opnd s a).2 && (opnd s x).2) (storeE P m t (opnd s a).1 (opnd s x).1)
  | .nilCheck x => withC (opnd s x).2 (nilE (opnd s x).1)
  | .binOp op t x y _ => withC ((opnd s x).2 && (opnd s y).2) (binE P op t (opnd s x).1 (opnd s y).1)
  | .unOp op _ x => withC (opnd s x).2 ((unV op (opnd s x).1).map fun r => { v := .val r })
  | .convert src dst x => withC (opnd s x).2 (convE P m src dst (opnd s x).1)
  | .slice t x lo hi mx => bif knownE P t then withC ((opnd s x).2 && (optV s lo).2 && (optV s hi).2 && (optV s mx).2) (sliceE P m t (opnd s x).1 (optV s lo).1 (optV s hi).1 (optV s mx).1) else none
  | .fieldAddr t x f => withC (opnd s x).2 (fieldE P t (opnd s x).1 f)
  | .field t x f => bif knownF P t f then withC (opnd s x).2 (fieldVE P t (opnd s x).1 f) else none
  | .indexAddr t x ix => bif knownE P t then withC ((opnd s x).2 && (opnd s ix).2) (indexE P m t (opnd s x).1 (opnd s ix).1) else none
  | .index t x ix => withC ((opnd s x).2 && (opnd s ix).2) (idxE P t (opnd s x).1 (opnd s ix).1)
  | .extract x i => withC (opnd s x).2 (extractE (opnd s x).1 i)
  | .call c => callOp P T s m d c
  | .makeMap t r => withF (makeMapE P d t r.isNone)
  | .lookup t x k ok => withC ((opnd s x).2 && (opnd s k).2) (lookupE P m t (opnd s x).1 (opnd s k).1 ok)
  | .mapUpdate t x k v => withC ((opnd s x).2 && (opnd s k).2 && (opnd s v).2) (updateE P m t (opnd s x).1 (opnd s k).1 (opnd s v).1)
  | .makeSlice t l c => withC ((opnd s l).2 && (opnd s c).2) (withF (makeSliceE P d t (opnd s l).1 (opnd s c).1))
  | .makeFunc fn first caps => withC ((argsV s first.toList).2 && (argsV s caps.toList).2) (makeFuncE m fn (argsV s first.toList).1 (argsV s caps.toList).1)
  | _ => none
end

section
variable {P : Program} {W : World} {ps : List Nat} {G : Ghost} {m : Mem} {w : World} {s : List PV} {a : Act}

theorem opnd_spec (hF : InvF P G s a) {x : Operand} (h : (opnd s x).2 = true) : RV P G (opnd s x).1 (a.eval x) := by
  cases x with
  | tmp t =>
    simp only [opnd] at h ⊢
    have hslot : RS P G (s.getD t .junk) (a.eval (.tmp t)) := by
      rw [List.getD_eq_getElem?_getD]
      cases hs : s[t]? with
      | none => exact RV.junk _
      | some x => exact hF.slot t x hs
    split at h <;> rename_i hx
    · rw [hx] at hslot
      exact hslot.1 h
    · revert hslot hx
      generalize s.getD t .junk = y at *
      intro hslot hx
      cases y with
      | gd g x => exact (hx g x rfl).elim
      | _ => exact hslot
  | const v =>
    simp only [opnd]
    show RV P G (bif flat v then .val v else .junk) v
    cases hv : flat v with
    | true => exact .sh (.val _ hv)
    | false => exact .junk _
  | global g => exact .junk _
  | func f => exact .sh (.val _ rfl)

theorem withC_some {c : Bool} {e : Option Eff} {e' : Eff} (h : withC c e = some e') : ∃ e0, e = some e0 ∧ e'.chk = (c && e0.chk) ∧ e'.v = e0.v ∧ e'.upd = e0.upd ∧ e'.fresh = e0.fresh ∧ e'.reads = e0.reads := by
  obtain ⟨e0, h0, rfl⟩ := Option.map_eq_some_iff.1 h
  exact ⟨e0, h0, rfl, rfl, rfl, rfl, rfl⟩
theorem withF_some {e : Option Eff} {e' : Eff} (h : withF e = some e') : ∃ e0, e = some e0 ∧ e'.chk = e0.chk ∧ e'.v = e0.v ∧ e'.upd = e0.upd ∧ e'.fresh = 1 ∧ e'.reads = e0.reads := by
  obtain ⟨e0, h0, rfl⟩ := Option.map_eq_some_iff.1 h
  exact ⟨e0, h0, rfl, rfl, rfl, rfl, rfl⟩

theorem RVs.app {G : Ghost} {ys zs : List PV} {vs us : List Value} (h : RVs P G ys vs) (k : RVs P G zs us) : RVs P G (ys ++ zs) (vs ++ us) := by
  refine ⟨by rw [List.length_append, List.length_append, h.1, k.1], fun i y v hy hv => ?_⟩
  by_cases hi : i < ys.length
  · rw [List.getElem?_append_left hi] at hy
    rw [List.getElem?_append_left (by rw [h.1]; exact hi)] at hv
    exact h.2 i y v hy hv
  · rw [List.getElem?_append_right (by omega)] at hy
    rw [List.getElem?_append_right (by rw [h.1]; omega), h.1] at hv
    exact k.2 _ y v hy hv
theorem argsV_spec (hF : InvF P G s a) : ∀ {l : List Operand}, (argsV s l).2 = true → RVs P G (argsV s l).1 (l.map a.eval)
  | [], _ => ⟨rfl, fun i y v hy => by simp [argsV] at hy⟩
  | x :: r, h => by
    simp only [argsV, Bool.and_eq_true] at h
    exact .cons (opnd_spec hF h.1) (argsV_spec hF h.2)

theorem partsV_spec (hF : InvF P G s a) : ∀ {l : List (Nat × Operand)}, (partsV s l).2 = true → PartsOk P G (partsV s l).1 (l.map fun (i, x) => (i, a.eval x))
  | [], _ => by simp [partsV]; trivial
  | (i, x) :: r, h => by
    simp only [partsV, Bool.and_eq_true] at h
    exact ⟨⟨rfl, opnd_spec hF h.1⟩, partsV_spec hF h.2⟩

theorem optV_spec (hF : InvF P G s a) {o : Option Operand} (h : (optV s o).2 = true) : (∀ x, (optV s o).1 = some x → ∃ v, o.map a.eval = some v ∧ RV P G x v) ∧ ((optV s o).1 = none → o.map a.eval = none) := by
  cases o with
  | none => exact ⟨fun x hx => by simp [optV] at hx, fun _ => rfl⟩
  | some x => exact ⟨fun y hy => by simp only [optV, Option.some.injEq] at hy; subst hy; exact ⟨_, rfl, opnd_spec hF h⟩, fun h => by simp [optV] at h⟩

theorem knownE_spec {t : TypeId} (h : knownE P t = true) : ∀ d, P.underlying t = some (.slice d) → (P.info? d).isSome = true := by
  intro d hd
  simpa [knownE, hd] using h

theorem minE_run {x y : PV} {e : Eff} {v u : Value} (tys : Array TypeId) (ty : TypeId) (h : minE x y = some e) (hx : RV P G x v) (hy : RV P G y u) : ∃ r, (Builtin.min_ tys ty #[v, u]).run P w = .ok r w ∧ RV P G e.v r ∧ e.upd = [] := by
  unfold minE at h
  split at h
  · rename_i k a k' b
    obtain ⟨hk, h⟩ := bif_some h
    injection h with h
    subst h
    obtain ⟨rfl, _⟩ := hx.val_inv
    obtain ⟨rfl, _⟩ := hy.val_inv
    refine ⟨.int k (if b < a then b else a), by simp [Builtin.min_, Builtin.min2], ?_, rfl⟩
    have : (bif decide (b < a) then b else a) = if b < a then b else a := by by_cases hba : b < a <;> simp [hba]
    show RV P G (.val (.int k (bif decide (b < a) then b else a))) _
    rw [this]
    exact .sh (.val _ rfl)
  · cases h
theorem maxE_run {x y : PV} {e : Eff} {v u : Value} (tys : Array TypeId) (ty : TypeId) (h : maxE x y = some e) (hx : RV P G x v) (hy : RV P G y u) : ∃ r, (Builtin.max_ tys ty #[v, u]).run P w = .ok r w ∧ RV P G e.v r ∧ e.upd = [] := by
  unfold maxE at h
  split at h
  · rename_i k a k' b
    obtain ⟨hk, h⟩ := bif_some h
    injection h with h
    subst h
    obtain ⟨rfl, _⟩ := hx.val_inv
    obtain ⟨rfl, _⟩ := hy.val_inv
    refine ⟨.int k (if b > a then b else a), by simp [Builtin.max_, Builtin.max2], ?_, rfl⟩
    have : (bif decide (b > a) then b else a) = if b > a then b else a := by by_cases hba : b > a <;> simp [hba]
    show RV P G (.val (.int k (bif decide (b > a) then b else a))) _
    rw [this]
    exact .sh (.val _ rfl)
  · cases h
theorem idxE_run {t : TypeId} {x y : PV} {e : Eff} {v u : Value} (h : idxE P t x y = some e) (hc : e.chk = true) (hx : RV P G x v) (hy : RV P G y u) : ∃ r, (Instr.index t v u).run P w = .ok r w ∧ RV P G e.v r ∧ e.upd = [] := by
  unfold idxE at h
  split at h
  · rename_i n et cs k i hu
    obtain ⟨hk, h⟩ := bif_some h
    obtain ⟨z, hz, rfl⟩ := Option.map_eq_some_iff.1 h
    obtain ⟨us, rfl, hl, h1, hS⟩ := hx.agg_inv
    obtain ⟨rfl, _⟩ := hy.val_inv
    simp only [Bool.and_eq_true, decide_eq_true_eq] at hc
    have hne : P.underlying et ≠ none := by intro e; rw [knownT, e] at hk; cases hk
    obtain ⟨q, hq, hrv⟩ := part_run w hl h1 hS hne hz
    have hinf : ∃ inf, P.info? et = some inf := by
      cases hd : P.underlying et with
      | none => exact absurd hd hne
      | some d => exact info_of_underlying hd
    obtain ⟨inf, hinf⟩ := hinf
    refine ⟨q, ?_, hrv, rfl⟩
    simp [Instr.index, asIntOf, run_underlying hu, hc.1, hc.2, run_sizeOf' w hinf, hq]
  · rename_i b k i hu
    obtain ⟨z, hz, rfl⟩ := Option.map_eq_some_iff.1 h
    obtain ⟨rfl, _⟩ := hx.val_inv
    obtain ⟨rfl, _⟩ := hy.val_inv
    have hc : 0 ≤ i := of_decide_eq_true hc
    refine ⟨.int .u8 z.toNat, ?_, .ofVal rfl, rfl⟩
    have hb : b[i.toNat]? = some z := by
      obtain ⟨hl, he⟩ := List.getElem?_eq_some_iff.1 hz
      rw [getElem?_pos b i.toNat (by simpa using hl)]
      rw [← he]
      rfl
    simp [Instr.index, asIntOf, run_underlying hu, hc, hb]
  · cases h

theorem storeE_run {t : TypeId} {x y : PV} {e : Eff} {v u : Value} (hI : InvM P W ps G m w) (h : storeE P m t x y = some e) (hc : e.chk = true) (hx : RV P G x v) (hy : RV P G y u) :
    ∃ G' w', Ext G G' ∧ (Instr.storeAt t v u).run P w = .ok () w' ∧ InvM P W ps G' (applyAll m e.upd) w' ∧ e.v = .junk := by
  unfold storeE at h
  split at h
  · exact storeRE_run hI h hc hx hy
  · obtain ⟨_, w', hr, hI'⟩ := storeBE_run hI h hx hy
    refine ⟨G, w', Ext.refl G, hr, hI', ?_⟩
    unfold storeBE at h
    split at h
    · split at h
      · replace h := (bif_some h).2
        obtain ⟨_, _, rfl⟩ := Option.map_eq_some_iff.1 h
        rfl
      · cases h
    · cases h
theorem makeFuncE_run {fn : Fn} {xs ys : List PV} {vs us : Array Value} {e : Eff} (hI : InvM P W ps G m w) (h : makeFuncE m fn xs ys = some e) (hx : RVs P G xs vs.toList) (hy : RVs P G ys us.toList) :
    ∃ r, (Instr.makeFunc fn vs us).run P w = .ok r w ∧ Done P W ps G m e r w ∧ e.chk = true := by
  unfold makeFuncE at h
  split at h
  · injection h with h
    subst h
    have e1 : vs = #[] := by have := hx.1; simp at this; exact this
    have e2 : us = #[] := by have := hy.1; simp at this; exact this
    subst e1 e2
    exact ⟨_, rfl, Done.same hI (.ofVal rfl) rfl, rfl⟩
  · obtain ⟨⟨cs, l⟩, hc, rfl⟩ := Option.map_eq_some_iff.1 h
    have e1 : vs = #[] := by have := hx.1; simp at this; exact this
    subst e1
    obtain ⟨G', he, hI', hf, hfr, hns, hR, hB⟩ := hI.freezeAll l (capL_alive hc)
    obtain ⟨q1, q2⟩ := capL_sh hI hI' he hf hc hfr
    refine ⟨.func _ #[] us, rfl, ⟨G', he, hI', .sh (.clo _ cs us ?_ fun i x u hx' hu => ?_)⟩, rfl⟩
    · rw [q1]; have := hy.1; simpa using this
    · have hi : i < ys.length := by have := (List.getElem?_eq_some_iff.1 hx').1; omega
      exact q2 i x ys[i] u hx' (List.getElem?_eq_getElem hi) (hy.2 i _ u (List.getElem?_eq_getElem hi) (by simpa using hu))
  · cases h

theorem Done.of {e e0 : Eff} {v : Value} {w' : World} (h : Done P W ps G m e0 v w') (hv : e.v = e0.v) (hu : e.upd = e0.upd) : Done P W ps G m e v w' := by
  unfold Done at *
  rw [hv, hu]
  exact h
end
end Go.Pm

/- One operation: what it comes to. -/
namespace Go.Pm
open Go.RowKit

section
variable {P : Program} {W : World} {ps : List Nat} {G : Ghost} {m : Mem} {w : World} {s : List PV} {a : Act}

theorem run_v {x : Sem Value} {r : Value} {w' : World} (h : x.run P w = .ok r w') : (do pure (Next.value (← x)) : Sem Next).run P w = .ok (.value r) w' := by
  simp [Sem.run_bind, h]
theorem run_u {x : Sem Unit} {w' : World} (h : x.run P w = .ok () w') : (do x; pure Next.skip : Sem Next).run P w = .ok .skip w' := by
  simp [Sem.run_bind, h]

theorem callFunc_run {f : FuncId} (h : Entered P f) (args : Array Value) : (callFunc f args).run P w = .ok (.enter f args) w := by
  obtain ⟨fn, h1, h2, h3⟩ := h
  have h2' : ¬ fn.name = "runtime.NumGoroutine" := by simpa using h2
  have h3' : ¬ fn.body = none := by intro e; rw [e] at h3; cases h3
  simp [callFunc, h1, h2', h3']

/-- One operation that is carried out. -/
theorem opE_wp {T : FuncId → List PV → Option (PV × List PV)} (hT : TableOk P T) {o : Oper} {e : Eff} {next : Act → World → Prop} {Q : Exit → Act → World → Prop} (hI : InvM P W ps G m w) (hF : InvF P G s a)
    (h : opE P T s m o.dst o.op = some e) (hc : e.chk = true) (hf : ∀ j, j < e.fresh → mget m (idOf o.dst + j) = none) (hn : ∀ v w', Done P W ps G m e v w' → next (a.put o.dst v) w') : o.wp P a w next Q := by
  obtain ⟨dst, op, type, pos, after, guard⟩ := o
  simp only at h hf hn
  have value : ∀ {r w'}, (execOp a.eval ⟨dst, op, type, pos, after, guard⟩).run P w = .ok (.value r) w' → Done P W ps G m e r w' → Oper.wp P ⟨dst, op, type, pos, after, guard⟩ a w next Q := by
    intro r w' h1 h2
    unfold Oper.wp
    rw [h1, Oper.upon_value]
    exact hn _ _ h2
  have same : ∀ {r : Value} {e0 : Eff}, RV P G e0.v r → e0.upd = [] → e.v = e0.v → e.upd = e0.upd → Done P W ps G m e r w := fun hv hu h1 h2 => (Done.same hI hv hu).of h1 h2
  cases op with
  | move x =>
    simp only [opE, Option.some.injEq] at h
    subst h
    exact value (w' := w) rfl (.same hI (opnd_spec hF hc) rfl)
  | assign x =>
    simp only [opE, Option.some.injEq] at h
    subst h
    exact value (w' := w) rfl (.same hI (opnd_spec hF hc) rfl)
  | pick c x y =>
    obtain ⟨e0, h0, h1, h2, h3, _⟩ := withC_some h
    rw [h1, Bool.and_eq_true] at hc
    have hcv := opnd_spec hF hc.1
    unfold pickE at h0
    split at h0
    · rename_i t bx by' ec ex ey
      injection h0 with h0
      subst h0
      rw [ec] at hcv
      obtain ⟨hcv, _⟩ := hcv.val_inv
      have hk := hc.2
      simp only [Bool.and_eq_true, Bool.or_eq_true, Bool.not_eq_true'] at hk
      cases t with
      | true =>
        have hx := opnd_spec hF (by simpa using hk.1)
        rw [ex] at hx
        obtain ⟨hx, _⟩ := hx.val_inv
        refine value (r := .bool bx) (w' := w) ?_ (same (e0 := { v := .val (.bool bx) }) (.sh (.val _ rfl)) rfl (by rw [h2]; rfl) h3)
        simp [execOp, hcv, asBool, hx]
      | false =>
        have hx := opnd_spec hF (by simpa using hk.2)
        rw [ey] at hx
        obtain ⟨hx, _⟩ := hx.val_inv
        refine value (r := .bool by') (w' := w) ?_ (same (e0 := { v := .val (.bool by') }) (.sh (.val _ rfl)) rfl (by rw [h2]; rfl) h3)
        simp [execOp, hcv, asBool, hx]
    · rename_i t by' ec _ ey
      injection h0 with h0
      subst h0
      rw [ec] at hcv
      obtain ⟨hcv, _⟩ := hcv.val_inv
      have hk := hc.2
      simp only [Bool.and_eq_true, Bool.not_eq_true'] at hk
      obtain ⟨rfl, hk⟩ := hk
      have hx := opnd_spec hF hk
      rw [ey] at hx
      obtain ⟨hx, _⟩ := hx.val_inv
      refine value (r := .bool by') (w' := w) ?_ (same (e0 := { v := .val (.bool by') }) (.sh (.val _ rfl)) rfl (by rw [h2]) h3)
      simp [execOp, hcv, asBool, hx]
    · rename_i t bx ec ex _
      injection h0 with h0
      subst h0
      rw [ec] at hcv
      obtain ⟨hcv, _⟩ := hcv.val_inv
      have hk := hc.2
      simp only [Bool.and_eq_true] at hk
      obtain ⟨rfl, hk⟩ := hk
      have hx := opnd_spec hF hk
      rw [ex] at hx
      obtain ⟨hx, _⟩ := hx.val_inv
      refine value (r := .bool bx) (w' := w) ?_ (same (e0 := { v := .val (.bool bx) }) (.sh (.val _ rfl)) rfl (by rw [h2]) h3)
      simp [execOp, hcv, asBool, hx]
    · cases h0
  | alloc t =>
    obtain ⟨e0, h0, h1, h2, h3, h4, _⟩ := withF_some h
    obtain ⟨_, r, w', hr, hd⟩ := allocE_run hI h0 (by simpa using hf 0 (by omega))
    exact value (run_v hr) (hd.of h2 h3)
  | box t x =>
    obtain ⟨e1, h1, c1, c2, c3, c4, _⟩ := withC_some h
    obtain ⟨e0, h0, d1, d2, d3, d4, _⟩ := withF_some h1
    rw [c1, Bool.and_eq_true] at hc
    obtain ⟨_, r, w', hr, hd⟩ := boxE_run hI h0 (by simpa using hf 0 (by omega)) (opnd_spec hF hc.1)
    exact value (run_v hr) (hd.of (c2.trans d2) (c3.trans d3))
  | build t parts =>
    obtain ⟨e0, h0, c1, c2, c3, _⟩ := withC_some h
    rw [c1, Bool.and_eq_true] at hc
    obtain ⟨_, r, hr, hv, hu⟩ := buildE_run (vs := parts.map fun (i, x) => (i, a.eval x)) hI h0 (by have := partsV_spec hF hc.1; simpa using this)
    exact value (run_v hr) (same hv hu c2 c3)
  | buildSlice t n parts =>
    obtain ⟨e1, h1, c1, c2, c3, c4, _⟩ := withC_some h
    obtain ⟨e0, h0, d1, d2, d3, d4, _⟩ := withF_some h1
    rw [c1, Bool.and_eq_true] at hc
    obtain ⟨_, r, w', hr, hd⟩ := buildSliceE_run (vs := parts.map fun (i, x) => (i, a.eval x)) hI h0 (by simpa using hf 0 (by omega)) (by have := partsV_spec hF hc.1; simpa using this)
    exact value (run_v hr) (hd.of (c2.trans d2) (c3.trans d3))
  | load t x =>
    obtain ⟨hk, h⟩ := bif_some h
    obtain ⟨e0, h0, c1, c2, c3, _⟩ := withC_some h
    rw [c1, Bool.and_eq_true] at hc
    obtain ⟨r, hr, hv, hu⟩ := loadE_run hI h0 hc.2 (opnd_spec hF hc.1) (by intro e; rw [knownT, e] at hk; cases hk)
    exact value (run_v hr) (same hv hu c2 c3)
  | store t x y =>
    obtain ⟨e0, h0, c1, c2, c3, _⟩ := withC_some h
    simp only [c1, Bool.and_eq_true] at hc
    obtain ⟨G', w', he, hr, hI', hv0⟩ := storeE_run hI h0 hc.2 (opnd_spec hF hc.1.1) (opnd_spec hF hc.1.2)
    unfold Oper.wp
    rw [show (execOp a.eval ⟨dst, .store t x y, type, pos, after, guard⟩).run P w = .ok .skip w' from run_u hr, Oper.upon_skip]
    exact hn _ _ ⟨G', he, by rw [c3]; exact hI', by rw [c2, hv0]; exact .junk _⟩
  | nilCheck x =>
    obtain ⟨e0, h0, c1, c2, c3, _⟩ := withC_some h
    rw [c1, Bool.and_eq_true] at hc
    obtain ⟨⟨p, hp⟩, hv, hu, _⟩ := nilE_run h0 (opnd_spec hF hc.1)
    refine value (r := a.eval x) (w' := w) ?_ (same hv hu c2 c3)
    simp [execOp, hp]
  | binOp op t x y yt =>
    obtain ⟨e0, h0, c1, c2, c3, _⟩ := withC_some h
    simp only [c1, Bool.and_eq_true] at hc
    obtain ⟨r, hr, hv, hu⟩ := binE_run (w := w) x y h0 hc.2 (opnd_spec hF hc.1.1) (opnd_spec hF hc.1.2)
    exact value (run_v hr) (same hv hu c2 c3)
  | unOp op t x =>
    obtain ⟨e0, h0, c1, c2, c3, _⟩ := withC_some h
    rw [c1, Bool.and_eq_true] at hc
    obtain ⟨r, hr, rfl⟩ := Option.map_eq_some_iff.1 h0
    obtain ⟨h1, h2⟩ := unV_run (w := w) hr (opnd_spec hF hc.1)
    exact value (run_v h1) (same (e0 := { v := .val r }) (.sh (.val _ h2)) rfl c2 c3)
  | convert src dst' x =>
    obtain ⟨e0, h0, c1, c2, c3, _⟩ := withC_some h
    rw [c1, Bool.and_eq_true] at hc
    obtain ⟨_, r, hr, hv, hu⟩ := convE_run hI h0 (opnd_spec hF hc.1)
    exact value (run_v hr) (same hv hu c2 c3)
  | slice t x lo hi mx =>
    obtain ⟨hk, h⟩ := bif_some h
    obtain ⟨e0, h0, c1, c2, c3, _⟩ := withC_some h
    simp only [c1, Bool.and_eq_true] at hc
    obtain ⟨⟨⟨⟨g1, g2⟩, g3⟩, g4⟩, g5⟩ := hc
    obtain ⟨r, hr, hv, hu⟩ := sliceE_run hI h0 g5 (opnd_spec hF g1) (optV_spec hF g2).1 (optV_spec hF g2).2 (optV_spec hF g3).1 (optV_spec hF g3).2 (optV_spec hF g4).1 (optV_spec hF g4).2 (knownE_spec hk)
    exact value (run_v hr) (same hv hu c2 c3)
  | fieldAddr t x f =>
    obtain ⟨e0, h0, c1, c2, c3, _⟩ := withC_some h
    rw [c1, Bool.and_eq_true] at hc
    obtain ⟨r, hr, hv, hu⟩ := fieldE_run (w := w) h0 (opnd_spec hF hc.1)
    exact value (run_v hr) (same hv hu c2 c3)
  | field t x f =>
    obtain ⟨hk, h⟩ := bif_some h
    obtain ⟨e0, h0, c1, c2, c3, _⟩ := withC_some h
    rw [c1, Bool.and_eq_true] at hc
    obtain ⟨r, hr, hv, hu, _⟩ := fieldVE_run (w := w) h0 (opnd_spec hF hc.1) (by intro off ft hft e; simp [knownF, hft, knownT, e] at hk)
    exact value (run_v hr) (same hv hu c2 c3)
  | indexAddr t x ix =>
    obtain ⟨hk, h⟩ := bif_some h
    obtain ⟨e0, h0, c1, c2, c3, _⟩ := withC_some h
    simp only [c1, Bool.and_eq_true] at hc
    obtain ⟨r, hr, hv, hu⟩ := indexE_run hI h0 hc.2 (opnd_spec hF hc.1.1) (opnd_spec hF hc.1.2) (knownE_spec hk)
    exact value (run_v hr) (same hv hu c2 c3)
  | index t x ix =>
    obtain ⟨e0, h0, c1, c2, c3, _⟩ := withC_some h
    simp only [c1, Bool.and_eq_true] at hc
    obtain ⟨r, hr, hv, hu⟩ := idxE_run (w := w) h0 hc.2 (opnd_spec hF hc.1.1) (opnd_spec hF hc.1.2)
    exact value (run_v hr) (same hv hu c2 c3)
  | extract x i =>
    obtain ⟨e0, h0, c1, c2, c3, _⟩ := withC_some h
    rw [c1, Bool.and_eq_true] at hc
    obtain ⟨r, hr, hv, hu, _⟩ := extractE_run (w := w) h0 (opnd_spec hF hc.1)
    exact value (run_v hr) (same hv hu c2 c3)
  | call c =>
    obtain ⟨callee, args, tys⟩ := c
    simp only [opE, callOp] at h
    split at h
    · split at h
      · rename_i x y t t' ha ht
        have ha : args = #[x, y] := by rw [← Array.toList_inj, ha]
        have ht : tys = #[t, t'] := by rw [← Array.toList_inj, ht]
        subst ha ht
        cases htt : (t == t') with
        | true =>
          rw [htt, cond_true] at h
          have htt := beq_iff_eq.1 htt
          subst htt
          obtain ⟨e1, h1, c1, c2, c3, c4, _⟩ := withC_some h
          obtain ⟨e0, h0, d1, d2, d3, d4, _⟩ := withF_some h1
          simp only [c1, d1, Bool.and_eq_true] at hc
          obtain ⟨r, w', hr, hd⟩ := appendE_run type hI h0 hc.2 (by simpa using hf 0 (by omega)) (opnd_spec hF hc.1.1) (opnd_spec hF hc.1.2)
          refine value ?_ (hd.of (c2.trans d2) (c3.trans d3))
          simp [execOp, resolve, invoke, builtin, hr]
        | false =>
          rw [htt, cond_false] at h
          have hti := (bif_some h).1
          replace h := (bif_some h).2
          obtain ⟨e1, h1, c1, c2, c3, c4, _⟩ := withC_some h
          obtain ⟨e0, h0, d1, d2, d3, d4, _⟩ := withF_some h1
          simp only [c1, d1, Bool.and_eq_true] at hc
          obtain ⟨r, w', hr, hd⟩ := appendZE_run type hI hti h0 hc.2 (by simpa using hf 0 (by omega)) (opnd_spec hF hc.1.1) (opnd_spec hF hc.1.2)
          refine value ?_ (hd.of (c2.trans d2) (c3.trans d3))
          simp [execOp, resolve, invoke, builtin, hr]
      · cases h
    · split at h
      · rename_i x y t t' ha ht
        have ha : args = #[x, y] := by rw [← Array.toList_inj, ha]
        have ht : tys = #[t, t'] := by rw [← Array.toList_inj, ht]
        subst ha ht
        have hkn := (bif_some h).1
        replace h := (bif_some h).2
        obtain ⟨e0, h0, c1, c2, c3, c4, _⟩ := withC_some h
        simp only [c1, Bool.and_eq_true] at hc
        obtain ⟨r, w', hr, hd, _⟩ := copyE_run (sT := t') type hI h0 (opnd_spec hF hc.1.1) (opnd_spec hF hc.1.2) (knownE_spec hkn)
        refine value ?_ (hd.of c2 c3)
        simp [execOp, resolve, invoke, builtin, hr]
      · cases h
    · split at h
      · rename_i x t ha ht
        have ha : args = #[x] := by rw [← Array.toList_inj, ha]
        have ht : tys = #[t] := by rw [← Array.toList_inj, ht]
        subst ha ht
        obtain ⟨e0, h0, c1, c2, c3, c4, _⟩ := withC_some h
        rw [c1, Bool.and_eq_true] at hc
        obtain ⟨r, w', hr, hd, _⟩ := clearE_run type hI h0 (opnd_spec hF hc.1)
        refine value ?_ (hd.of c2 c3)
        simp [execOp, resolve, invoke, builtin, hr]
      · cases h
    · split at h
      · rename_i x t ha ht
        obtain ⟨e0, h0, c1, c2, c3, _⟩ := withC_some h
        rw [c1, Bool.and_eq_true] at hc
        have ha : args = #[x] := by rw [← Array.toList_inj, ha]
        have ht : tys = #[t] := by rw [← Array.toList_inj, ht]
        subst ha ht
        obtain ⟨r, hr, hv, hu⟩ := lenE_run type hI h0 (opnd_spec hF hc.1)
        refine value ?_ (same hv hu c2 c3)
        simp [execOp, resolve, invoke, builtin, hr]
      · cases h
    · split at h
      · rename_i x t ha ht
        obtain ⟨e0, h0, c1, c2, c3, _⟩ := withC_some h
        rw [c1, Bool.and_eq_true] at hc
        have ha : args = #[x] := by rw [← Array.toList_inj, ha]
        have ht : tys = #[t] := by rw [← Array.toList_inj, ht]
        subst ha ht
        obtain ⟨r, hr, hv, hu⟩ := capE_run (w := w) type h0 (opnd_spec hF hc.1)
        refine value ?_ (same hv hu c2 c3)
        simp [execOp, resolve, invoke, builtin, hr]
      · cases h
    · split at h
      · rename_i x y ha
        obtain ⟨e0, h0, c1, c2, c3, _⟩ := withC_some h
        simp only [c1, Bool.and_eq_true] at hc
        have ha : args = #[x, y] := by rw [← Array.toList_inj, ha]
        subst ha
        obtain ⟨r, hr, hv, hu⟩ := minE_run (w := w) tys type h0 (opnd_spec hF hc.1.1) (opnd_spec hF hc.1.2)
        refine value ?_ (same hv hu c2 c3)
        simp [execOp, resolve, invoke, builtin, hr]
      · cases h
    · split at h
      · rename_i x y ha
        obtain ⟨e0, h0, c1, c2, c3, _⟩ := withC_some h
        simp only [c1, Bool.and_eq_true] at hc
        have ha : args = #[x, y] := by rw [← Array.toList_inj, ha]
        subst ha
        obtain ⟨r, hr, hv, hu⟩ := maxE_run (w := w) tys type h0 (opnd_spec hF hc.1.1) (opnd_spec hF hc.1.2)
        refine value ?_ (same hv hu c2 c3)
        simp [execOp, resolve, invoke, builtin, hr]
      · cases h
    · rename_i x
      obtain ⟨e0, h0, c1, c2, c3, c4, _⟩ := withC_some h
      simp only [c1, Bool.and_eq_true] at hc
      have hargs := argsV_spec hF hc.1.2
      have hxv := opnd_spec hF hc.1.1
      -- the function that is called, and what it has captured
      have key : ∀ {f : FuncId} {caps : List PV} {us : Array Value}, a.eval x = .func (.func f) #[] us → RVs P G caps us.toList → callE T m dst f ((argsV s args.toList).1 ++ caps) = some e0 →
          Oper.wp P ⟨dst, .call ⟨.value x, args, tys⟩, type, pos, after, guard⟩ a w next Q := by
        intro f caps us hev hcaps hcall
        have hall : RVs P G ((argsV s args.toList).1 ++ caps) (args.map a.eval ++ us).toList := by
          have := hargs.app hcaps
          simpa using this
        obtain ⟨_, hent, hcall⟩ := callE_run hT (vals := args.map a.eval ++ us) hI hcall (by rw [← c4]; exact hf) hall
        unfold Oper.wp
        have hr : (execOp a.eval ⟨dst, .call ⟨.value x, args, tys⟩, type, pos, after, guard⟩).run P w = .ok (.enter f (args.map a.eval ++ us)) w := by
          simp [execOp, resolve, invoke, Deferred.ofValue, hev, callFunc_run hent]
        rw [hr, Oper.upon_enter]
        refine hcall.mono ?_
        rintro e' w'' ⟨v, rfl, hd⟩
        exact hn _ _ (hd.of c2 c3)
      unfold callV at h0
      split at h0
      · rename_i f fs cs hfv
        rw [hfv] at hxv
        obtain ⟨hev, hfl⟩ := hxv.val_inv
        simp only [flat, Bool.and_eq_true, Array.isEmpty_iff] at hfl
        obtain ⟨rfl, rfl⟩ := hfl
        exact key hev (caps := []) ⟨rfl, fun i y v h => by simp at h⟩ (by rw [List.append_nil]; exact h0)
      · rename_i f caps hfv
        rw [hfv] at hxv
        obtain ⟨us, hev, hl, hS⟩ := hxv.clo_inv
        exact key hev ⟨by simpa using hl, fun i y v hy hv => .sh (hS i y v hy (by simpa using hv))⟩ h0
      · cases h0
    · cases h
  | makeMap t r =>
    obtain ⟨e0, h0, d1, d2, d3, d4, _⟩ := withF_some h
    cases r with
    | some r =>
      simp only [Option.isNone_some] at h0
      unfold makeMapE at h0
      split at h0
      · cases h0
      · cases h0
    | none =>
      obtain ⟨r, w', hr, hd, _⟩ := makeMapE_run hI h0 (by simpa using hf 0 (by omega))
      exact value (run_v hr) (hd.of d2 d3)
  | lookup t x k ok =>
    obtain ⟨e0, h0, c1, c2, c3, _⟩ := withC_some h
    simp only [c1, Bool.and_eq_true] at hc
    obtain ⟨r, hr, hv, hu, _⟩ := lookupE_run (w := w) hI h0 (opnd_spec hF hc.1.1) (opnd_spec hF hc.1.2)
    exact value (run_v hr) (same hv hu c2 c3)
  | mapUpdate t x k v =>
    obtain ⟨e0, h0, c1, c2, c3, _⟩ := withC_some h
    simp only [c1, Bool.and_eq_true] at hc
    obtain ⟨G', w', he, hr, hI', hv0, _⟩ := updateE_run hI h0 (opnd_spec hF hc.1.1.1) (opnd_spec hF hc.1.1.2) (opnd_spec hF hc.1.2)
    unfold Oper.wp
    rw [show (execOp a.eval ⟨dst, .mapUpdate t x k v, type, pos, after, guard⟩).run P w = .ok .skip w' from run_u hr, Oper.upon_skip]
    exact hn _ _ ⟨G', he, by rw [c3]; exact hI', by rw [c2, hv0]; exact .junk _⟩
  | makeSlice t l c =>
    obtain ⟨e1, h1, c1, c2, c3, c4, _⟩ := withC_some h
    obtain ⟨e0, h0, d1, d2, d3, d4, _⟩ := withF_some h1
    simp only [c1, d1, Bool.and_eq_true] at hc
    obtain ⟨r, w', hr, hd⟩ := makeSliceE_run hI h0 hc.2 (by simpa using hf 0 (by omega)) (opnd_spec hF hc.1.1) (opnd_spec hF hc.1.2)
    exact value (run_v hr) (hd.of (c2.trans d2) (c3.trans d3))
  | makeFunc fn first caps =>
    obtain ⟨e0, h0, c1, c2, c3, c4, _⟩ := withC_some h
    simp only [c1, Bool.and_eq_true] at hc
    obtain ⟨r, hr, hd, _⟩ := makeFuncE_run (vs := first.map a.eval) (us := caps.map a.eval) hI h0 (by simpa using argsV_spec hF hc.1.1) (by simpa using argsV_spec hF hc.1.2)
    exact value (run_v hr) (hd.of c2 c3)
  | _ => cases h
end
end Go.Pm

/- Regions, code, functions: the definitions. -/
namespace Go.Pm

section
variable (P : Program) (T : FuncId → List PV → Option (PV × List PV))
def putS (s : List PV) (d : Option Tmp) (v : PV) : List PV := match d with
  | some d => s.set d v
  | none => s
def ap (st : St) (d : Option Tmp) (e : Eff) : St := ⟨putS st.s d e.v, applyAll st.m e.upd⟩
def freshB (m : Mem) (n : Nat) : Nat → Bool
  | 0 => true
  | k + 1 => (mget m (n + k)).isNone && freshB m n k
def gateJ : Bool → Option Bool
  | false => some false
  | true => none
def gateB (want : Bool) : PV → Option Bool
  | .val (.bool b) => some (b == want)
  | .gd g (.val (.bool b)) => some (g && (b == want))
  | .gd g .junk => gateJ g
  | _ => none
def isFr : Upd → Bool
  | .freeze => true
  | _ => false
def isCallOp : Op → Bool
  | .call ⟨.value _, _, _⟩ => true
  | _ => false
/-- An operand that isn't there, as its own operation was passed over. -/
def deadO (s : List PV) : Operand → Bool
  | .tmp t => match s.getD t .junk with
    | .gd _ .junk => true
    | _ => false
  | _ => false
def hasDead (s : List PV) : Op → Bool
  | .pick c _ _ => deadO s c
  | op => op.operands.toList.any (deadO s)
/-- An operation, carried out or not. -/
def operE (ops : Array Oper) (st : St) (o : Oper) : Option Eff := match o.guard with
  | none => opE P T st.s st.m o.dst o.op
  | some (g, want) => match (ops[g]?).bind (·.dst) with
    | none => none
    | some t => match gateB want (st.s.getD t .junk) with
      | none => none
      | some c => bif isCallOp o.op then (bif c then (match opE P T st.s st.m o.dst o.op with
          | none => none
          | some e => some { e with v := .gd true e.v }) else some { v := .gd false .junk }) else bif hasDead st.s o.op then some { chk := !c, v := .gd false .junk } else match opE P T st.s st.m o.dst o.op with
        | none => none
        | some e => bif e.upd.all fun u => isFr u.2 then some { e with chk := e.chk || !c, v := .gd c e.v } else none
def runOps {R : Type} (ops : Array Oper) : List Oper → St → (List Eff → St → Option R) → Option R
  | [], st, k => k [] st
  | o :: r, st, k => match operE P T ops st o with
    | none => none
    | some e => bif freshB st.m (idOf o.dst) e.fresh && e.chk then runOps ops r (ap st o.dst e) (fun es st => k (e :: es) st) else none

/-- Two effects that may come in either order. -/
def ufree (us vs : List (Nat × Upd)) : Bool := us.all fun u => vs.all fun v => !(u.1 == v.1) || (isFr u.2 && isFr v.2)
def rfree (us : List (Nat × Upd)) (rs : List (Nat × Bool)) : Bool := us.all fun u => rs.all fun r => !(u.1 == r.1) || (isFr u.2 && !r.2)
def newfree (us : List (Nat × Upd)) (n k : Nat) : Bool := us.all fun u => !(Nat.ble n u.1 && Nat.blt u.1 (n + k))
def noconf (d d' : Option Tmp) (e e' : Eff) : Bool :=
  ufree e.upd e'.upd && rfree e.upd e'.reads && rfree e'.upd e.reads && newfree e.upd (idOf d') e'.fresh && newfree e'.upd (idOf d) e.fresh
def unOk (ops : Array Oper) (es : List Eff) (un : List (Nat × Nat)) : Bool :=
  un.all fun (i, j) => match es[i]?, es[j]? with
    | some e, some e' => noconf ((ops[i]?).bind (·.dst)) ((ops[j]?).bind (·.dst)) e e'
    | _, _ => false

/-- What is known of a code ahead: for a drawn region the pairs that are looked at; for a loop the slots that live at its head. -/
inductive An where
  | no
  | reg (un : List (Nat × Nat))
  | two (a b : An)
  | one (a : An)
  | loop (live : List Nat) (a : An)
inductive Ex where
  | normal
  | exit (id : Nat)
  | ret

/-! ### A loop's head: what lives, numbered anew -/
def ren1 (f : Nat → Option Nat) : PV → Option PV
  | .val v => some (.val v)
  | .sl e E => some (.sl e E)
  | .el t x => some (.el t x)
  | .ref r => (f r).map .ref
  | .win r lo hi e => (f r).map fun r => .win r lo hi e
  | .rptr r i off e => (f r).map fun r => .rptr r i off e
  | .ptr k off => (f k).map fun k => .ptr k off
  | .bsl k off n e => (f k).map fun k => .bsl k off n e
  | .junk => some .junk
  | .spt t x => some (.spt t x)
  | .clo g cs => some (.clo g cs)
  | .smap t es => some (.smap t es)
  | .mref k => (f k).map .mref
  | .sptr (.el t x) o e => some (.sptr (.el t x) o e)
  | .sptr (.val v) o e => some (.sptr (.val v) o e)
  | _ => none
def renL (f : Nat → Option Nat) : List PV → Option (List PV)
  | [] => some []
  | x :: r => match ren1 f x, renL f r with
    | some y, some ys => some (y :: ys)
    | _, _ => none
def ren2 (f : Nat → Option Nat) : PV → Option PV
  | .agg cs => (renL f cs).map .agg
  | .gd g x => (ren1 f x).map (.gd g ·)
  | x => ren1 f x
def ids1 : PV → List Nat
  | .ref r => [r]
  | .win r _ _ _ => [r]
  | .rptr r _ _ _ => [r]
  | .ptr k _ => [k]
  | .mref k => [k]
  | .bsl k _ _ _ => [k]
  | _ => []
def ids2 : PV → List Nat
  | .agg cs => cs.flatMap ids1
  | .gd _ x => ids1 x
  | x => ids1 x
def assoc (l : List (Nat × Nat)) (k : Nat) : Option Nat := match l with
  | [] => none
  | (a, b) :: r => bif a == k then some b else assoc r k
/-- The numbers that are given anew. -/
def newT : List Nat := [100, 101, 102, 103, 104, 105, 106, 107, 108, 109, 110, 111, 112, 113, 114, 115, 116, 117, 118, 119, 120, 121, 122, 123, 124, 125, 126, 127, 128, 129, 130, 131]
def restT : List (Nat × Nat) → List Nat → List Nat
  | [], t => t
  | _ :: l, _ :: t => restT l t
  | _, [] => []
def addIds (l : List (Nat × Nat)) : List Nat → List (Nat × Nat)
  | [] => l
  | k :: r => match assoc l k with
    | some _ => addIds l r
    | none => match restT l newT with
      | t :: _ => addIds (l ++ [(k, t)]) r
      | [] => l
def fIdL {R : Type} : List (Nat × Nat) → (List (Nat × Nat) → R) → R
  | [], k => k []
  | (a, b) :: r, k => fIdL r fun r => k ((a, b) :: r)
theorem fIdL_eq {R : Type} : ∀ (l : List (Nat × Nat)) (k : List (Nat × Nat) → R), fIdL l k = k l
  | [], _ => rfl
  | (_, _) :: r, _ => by simp only [fIdL, fIdL_eq r]
/-- The boxes that were handed in keep their numbers. -/
def fixed : Mem → List (Nat × Nat)
  | [] => []
  | (k, _) :: r => bif Nat.blt k 100 then (k, k) :: fixed r else fixed r
/-- The slots, the dead ones emptied. -/
def keepS (live : List Nat) (s : List PV) : List PV := live.foldl (fun t i => t.set i (s.getD i .junk)) (s.map fun _ => .junk)
def idsBox (m : Mem) (k : Nat) : List Nat := match mget m k with
  | some (.box _ x, _) => ids2 x
  | _ => []
def renC (f : Nat → Option Nat) : Cont → Option Cont
  | .box t x => (ren2 f x).map (.box t ·)
  | .row e E => some (.row e E)
  | .mp t es => some (.mp t es)
  | .dead => some .dead
  | .gone n => some (.gone n)
def renM (f : Nat → Option Nat) (m : Mem) : List (Nat × Nat) → Option Mem
  | [] => some []
  | (k, n) :: r => match mget m k with
    | none => none
    | some (c, fz) => match renC f c, renM f m r with
      | some c, some m' => some ((n, (c, fz)) :: m')
      | _, _ => none
def renS (f : Nat → Option Nat) : List PV → Option (List PV)
  | [] => some []
  | x :: r => match ren2 f x, renS f r with
    | some y, some ys => some (y :: ys)
    | _, _ => none
def nodupN : List Nat → Bool
  | [] => true
  | k :: r => (r.all fun x => !(x == k)) && nodupN r
def okMap (m : Mem) (l : List (Nat × Nat)) : Bool := nodupN (l.map (·.1)) && nodupN (l.map (·.2)) && (fixed m).all fun p => match assoc l p.1 with
  | some k => k == p.1
  | none => false
def norm (live : List Nat) (st : St) : Option St :=
  fIdL (addIds (fixed st.m) (live.flatMap fun i => ids2 (st.s.getD i .junk))) fun l => fIdL (addIds l (l.flatMap fun p => idsBox st.m p.1)) fun l => match renS (assoc l) (keepS live st.s) with
    | some s => match renM (assoc l) st.m l with
      | some m => match okMap st.m l with
        | true => some ⟨s, m⟩
        | false => none
      | none => none
    | none => none

/-! ### Code -/
variable {R : Type}
def loopE (body : St → (Ex → St → Option R) → Option R) (live : List Nat) : Nat → St → (Ex → St → Option R) → Option R
  | 0, _, _ => none
  | n + 1, st, k => match norm live st with
    | none => none
    | some st => body st fun ex st => match ex with
      | .normal => loopE body live n st k
      | ex => k ex st
def An.fst : An → An
  | .two a _ => a
  | .one a => a
  | .loop _ a => a
  | _ => .no
def An.snd : An → An
  | .two _ b => b
  | _ => .no
def An.live : An → List Nat
  | .loop l _ => l
  | _ => []
def An.un : An → List (Nat × Nat)
  | .reg l => l
  | _ => []
def den (fuel : Nat) : Code → An → St → (Ex → St → Option R) → Option R
  | .skip, _, st, k => k .normal st
  | .region _ ops draw, an, st, k => runOps P T ops ops.toList st fun es st => bif !draw || unOk ops es an.un then k .normal st else none
  | .seq a b, an, st, k => den fuel a an.fst st fun ex st => match ex with
    | .normal => den fuel b an.snd st k
    | ex => k ex st
  | .cond c t e, an, st, k => match opnd st.s c with
    | (.val (.bool b), g) => bif g then (bif b then den fuel t an.fst st k else den fuel e an.snd st k) else none
    | _ => none
  | .block id b, an, st, k => den fuel b an.fst st fun ex st => match ex with
    | .exit j => bif j == id then k .normal st else k (.exit j) st
    | ex => k ex st
  | .loop b, an, st, k => loopE (den fuel b an.fst) an.live fuel st k
  | .exit id, _, st, k => k (.exit id) st
  | .ret, _, st, k => k .ret st
  | _, _, _, _ => none

/-! ### Functions -/
/-- A shared variable's content, as it is read. -/
def mark (t : TypeId) : PV → PV
  | .val v => .val v
  | x => .el t x
def enterL : Nat → List PV → List PV × Mem
  | _, [] => ([], [])
  | n, .bx t x :: r => (.ptr n 0 :: (enterL (n + 1) r).1, (n, (.box t x, false)) :: (enterL (n + 1) r).2)
  | n, .row e E :: r => (.ref n :: (enterL (n + 1) r).1, (n, (.row e E, false)) :: (enterL (n + 1) r).2)
  | n, .spt t x :: r => (.sptr (mark t x) 0 t :: (enterL (n + 1) r).1, (enterL (n + 1) r).2)
  | n, x :: r => (x :: (enterL (n + 1) r).1, (enterL (n + 1) r).2)
def enterE (ntmps : Nat) (args : List PV) : St := ⟨(enterL 0 args).1 ++ List.replicate (ntmps - args.length) .junk, (enterL 0 args).2⟩
/-- What is handed back: its form, what is shared with it, what goes over to the caller. -/
def exp1 (m : Mem) : PV → Option (PV × List Nat × List Nat)
  | .ref r => match mget m r with
    | some (.row e E, false) => some (.row e E, [], [r])
    | some (.row e E, true) => some (.sl e E, [r], [])
    | _ => none
  | .ptr k off => match mget m k with
    | some (.box t x, false) => bif off == 0 then (share m x).map fun (y, l) => (.bx t y, l, [k]) else none
    | _ => none
  | .win r lo hi e => match mget m r with
    | some (.row e' E, false) => bif (lo == 0) && (e == e') then some (.row e (E.cut 0 hi), [], [r]) else (share1 m (.win r lo hi e)).map fun (y, l) => (y, l, [])
    | _ => (share1 m (.win r lo hi e)).map fun (y, l) => (y, l, [])
  | x => (share1 m x).map fun (y, l) => (y, l, [])
def expL (m : Mem) : List PV → Option (List PV × List Nat × List Nat)
  | [] => some ([], [], [])
  | x :: r => match exp1 m x, expL m r with
    | some (y, l, o), some (ys, l', o') => some (y :: ys, l ++ l', o ++ o')
    | _, _ => none
def exp2 (m : Mem) : PV → Option (PV × List Nat × List Nat)
  | .agg cs => (expL m cs).map fun (ys, l, o) => (.agg ys, l, o)
  | x => exp1 m x
def expM (m : Mem) : List PV → Option (List PV × List Nat × List Nat)
  | [] => some ([], [], [])
  | x :: r => match exp2 m x, expM m r with
    | some (y, l, o), some (ys, l', o') => some (y :: ys, l ++ l', o ++ o')
    | _, _ => none
/-- The boxes that were handed in, as they are left; a row that goes over as a result ('tk') is given up. -/
def outsF (m : Mem) (tk : List Nat) : Nat → List PV → Option (List PV × List Nat × List Nat)
  | _, [] => some ([], [], [])
  | n, .bx t _ :: r => match mget m n with
    | some (.box t' x, false) => bif t == t' then (match share m x, outsF m tk (n + 1) r with
      | some (y, l), some (ys, l', o) => some (y :: ys, l ++ l', n :: o)
      | _, _ => none) else none
    | _ => none
  | n, .row e _ :: r => bif tk.any (· == n) then (match outsF m tk (n + 1) r with
      | some (ys, l, o) => some (.junk :: ys, l, o)
      | none => none) else match mget m n with
    | some (.row e' E, false) => bif e == e' then (match outsF m tk (n + 1) r with
      | some (ys, l, o) => some (.row e' E :: ys, l, n :: o)
      | none => none) else none
    | some (.dead, _) => match outsF m tk (n + 1) r with
      | some (ys, l, o) => some (.junk :: ys, l, o)
      | none => none
    | some (.gone _, _) => match outsF m tk (n + 1) r with
      | some (ys, l, o) => some (.junk :: ys, l, o)
      | none => none
    | _ => none
  | n, _ :: r => outsF m tk (n + 1) r
def okExp (l o : List Nat) : Bool := nodupN o && o.all fun k => l.all fun j => !(j == k)
def resE (st : St) : List ResultVar → Option (List PV)
  | [] => some []
  | .tmp t :: r => match opnd st.s (.tmp t), resE st r with
    | (x, true), some xs => some (x :: xs)
    | _, _ => none
  | .cell a t :: r => match opnd st.s (.tmp a) with
    | (x, true) => match loadE P st.m t x, resE st r with
      | some e, some xs => bif e.chk && knownT P t then some (e.v :: xs) else none
      | _, _ => none
    | _ => none
def one (ys : List PV) : PV := match ys with
  | [y] => y
  | ys => .tup ys
def leaveE (fn : Func) (args : List PV) (st : St) : Option (PV × List PV) := match resE P st fn.results.toList with
  | some xs => match expM st.m xs with
    | some (ys, l', o') => match outsF st.m o' 0 args with
      | some (outs, l, o) => bif okExp (l ++ l') (o ++ o') then some (one ys, outs) else none
      | none => none
    | none => none
  | none => none
def funE (fuel : Nat) (fn : Func) (an : An) (args : List PV) : Option (PV × List PV) := match fn.body with
  | some c => bif args.length == fn.params.size + fn.nfree && Nat.ble args.length 100 && Nat.ble args.length fn.ntmps then den P T fuel c an (enterE fn.ntmps args) fun ex st => match ex with
    | .exit _ => none
    | _ => leaveE P fn args st else none
  | none => none
end
end Go.Pm

/- The same code's meaning, in a form that evaluates well: all that is kept is brought to its outer form first; it stops at tests, calls and loops. -/
namespace Go.Pm

section
variable (P : Program) (T : FuncId → List PV → Option (PV × List PV))
variable {R : Type}
def fS : List PV → Nat → PV → (List PV → R) → R
  | [], _, _, k => k []
  | _ :: r, 0, v, k => k (v :: r)
  | x :: r, n + 1, v, k => fS r n v fun r' => k (x :: r')
def fPut (s : List PV) (d : Option Tmp) (v : PV) (k : List PV → R) : R := match d with
  | none => k s
  | some d => fS s d v k
def fE : Els → (Els → R) → R
  | .ints kk l, k => k (.ints kk l)
  | .els l, k => k (.els l)
/-- One cell's value, brought to its outer form. -/
def fV1 : PV → (PV → R) → R
  | .val (.int kk n), k => k (.val (.int kk n))
  | .val (.bool b), k => k (.val (.bool b))
  | .val v, k => k (.val v)
  | .sl e E, k => fE E fun E => k (.sl e E)
  | .agg cs, k => k (.agg cs)
  | .tup cs, k => k (.tup cs)
  | .ref r, k => k (.ref r)
  | .win r lo hi e, k => k (.win r lo hi e)
  | .rptr r i o e, k => k (.rptr r i o e)
  | .ptr r o, k => k (.ptr r o)
  | .bsl r o n e, k => k (.bsl r o n e)
  | .sptr x o e, k => k (.sptr x o e)
  | .row e E, k => fE E fun E => k (.row e E)
  | .bx t x, k => k (.bx t x)
  | .el t x, k => k (.el t x)
  | .gd g x, k => k (.gd g x)
  | .spt t x, k => k (.spt t x)
  | .clo f cs, k => k (.clo f cs)
  | .mref r, k => k (.mref r)
  | .smap t es, k => k (.smap t es)
  | .junk, k => k .junk
def fL1 : List PV → (List PV → R) → R
  | [], k => k []
  | x :: r, k => fV1 x fun x => fL1 r fun r => k (x :: r)
/-- A value, brought to its outer form; of an aggregate the cells too. -/
def fV2 : PV → (PV → R) → R
  | .agg cs, k => fL1 cs fun cs => k (.agg cs)
  | x, k => fV1 x k
def fL2 : List PV → (List PV → R) → R
  | [], k => k []
  | x :: r, k => fV2 x fun x => fL2 r fun r => k (x :: r)
def fV : PV → (PV → R) → R
  | .gd g x, k => fV2 x fun x => k (.gd g x)
  | .tup cs, k => fL2 cs fun cs => k (.tup cs)
  | x, k => fV2 x k
def fC : Cont → (Cont → R) → R
  | .box t x, k => fV2 x fun x => k (.box t x)
  | .row e E, k => fE E fun E => k (.row e E)
  | .mp t es, k => k (.mp t es)
  | .dead, k => k .dead
  | .gone n, k => k (.gone n)
def fSet : Mem → Nat → Cont × Bool → (Mem → R) → R
  | [], _, _, k => k []
  | (a, o') :: r, id, o, k => match a == id with
    | true => k ((a, o) :: r)
    | false => fSet r id o fun r' => k ((a, o') :: r')
def fUp (m : Mem) : List (Nat × Upd) → (Mem → R) → R
  | [], k => k m
  | (id, .new c fz) :: us, k => fC c fun c => fUp ((id, (c, fz)) :: m) us k
  | (id, .cont c) :: us, k => match mget m id with
    | some (_, fz) => fC c fun c => fSet m id (c, fz) fun m => fUp m us k
    | none => fUp m us k
  | (id, .freeze) :: us, k => match mget m id with
    | some (c, _) => fSet m id (c, true) fun m => fUp m us k
    | none => fUp m us k
def fL : List PV → (List PV → R) → R
  | [], k => k []
  | x :: r, k => fV x fun x => fL r fun r => k (x :: r)
def fMm : Mem → (Mem → R) → R
  | [], k => k []
  | (id, (c, fz)) :: r, k => fC c fun c => fMm r fun r => k ((id, (c, fz)) :: r)
def asrt (c : Bool) (A : Option R) : Option R := match c with
  | true => A
  | false => none
def brch (c : Bool) (A B : Option R) : Option R := match c with
  | true => A
  | false => B
def callF (r : Option (PV × List PV)) (K : PV → List PV → Option R) : Option R := match r with
  | some (r, outs) => K r outs
  | none => none
/-- An effect, if there is one. -/
def effK (e : Option Eff) (k : Eff → Option R) : Option R := match e with
  | some e => k e
  | none => none
def fO (s : List PV) (x : Operand) (k : PV → Bool → R) : R := match opnd s x with
  | (v, g) => fV v fun v => k v g
def fArgs (s : List PV) : List Operand → (List PV → Bool → R) → R
  | [], k => k [] true
  | x :: r, k => fO s x fun v g => fArgs s r fun vs g' => k (v :: vs) (g && g')
def fParts (s : List PV) : List (Nat × Operand) → (List (Nat × PV) → Bool → R) → R
  | [], k => k [] true
  | (i, x) :: r, k => fO s x fun v g => fParts s r fun vs g' => k ((i, v) :: vs) (g && g')
def fOpt (s : List PV) (o : Option Operand) (k : Option PV → Bool → R) : R := match o with
  | none => k none true
  | some x => fO s x fun v g => k (some v) g
def fillK (place : Nat → Option (Nat × TypeId)) (cs : List PV) : List (Nat × PV) → (List PV → Option R) → Option R
  | [], k => k cs
  | (i, x) :: r, k => match place i with
    | none => none
    | some (off, t) => match ((cells x).length == sizeT P t) && Nat.ble (off + sizeT P t) cs.length && sizeOk P t x with
      | true => fL1 (cs.take off ++ cells x ++ cs.drop (off + sizeT P t)) fun cs => fillK place cs r k
      | false => none
def buildK (t : TypeId) (ps : List (Nat × PV)) (k : Eff → Option R) : Option R := match zeroOf P t with
  | some (.agg zs) => match fieldsOk P t with
    | true => fL1 zs fun zs => fillK P (placeS P t) zs ps fun cs => k { v := .agg cs }
    | false => none
  | _ => none
variable (rw : FuncId → Bool)
def callK (m : Mem) (d : Option Tmp) (f : FuncId) (args : List PV) (k : Eff → Option R) : Option R := match Nat.blt f 1000000 with
  | false => none
  | true => match argsE m (rw f) args with
    | none => none
    | some (xs, l, bs) => fL xs fun xs => callF (T f xs) fun r outs => match outsE bs outs with
      | none => none
      | some ups => match nodupB bs && (l.all fun k => bs.all fun b => !(b.1 == k)) && Nat.ble (importV (idOf d) r).2.length 16 with
        | false => none
        | true => k { v := (importV (idOf d) r).1, reads := reads l ++ bs.map (fun b => (b.1, true)), upd := (bif clean r && outs.all flatOut then [] else freezes l) ++ ups ++ (importV (idOf d) r).2, fresh := (importV (idOf d) r).2.length }
def callVK (m : Mem) (d : Option Tmp) (f : PV) (args : List PV) (k : Eff → Option R) : Option R := match f with
  | .val (.func (.func f) _ _) => callK T rw m d f args k
  | .clo f caps => callK T rw m d f (args ++ caps) k
  | _ => none
/-- A comparison of strings. -/
def strB (op : BinOp) (a b : ByteArray) : Option Bool := match op with
  | .eql => some (a.data.toList == b.data.toList)
  | .neq => some (!(a.data.toList == b.data.toList))
  | .lss => some (Op.bytesLess a.data.toList b.data.toList)
  | .leq => some (Op.bytesLess a.data.toList b.data.toList || a.data.toList == b.data.toList)
  | .gtr => some (!(Op.bytesLess a.data.toList b.data.toList || a.data.toList == b.data.toList))
  | .geq => some (!Op.bytesLess a.data.toList b.data.toList)
  | _ => none
/-- Whoever evaluates a comparison of strings stops here until its answer is known. -/
def strK (op : BinOp) (a b : PV) (k : Bool → Option R) (other : Option R) : Option R := match a, b with
  | .val (.string x), .val (.string y) => match strB op x y with
    | some c => match c with
      | true => k true
      | false => k false
    | none => other
  | _, _ => other
def opK (s : List PV) (m : Mem) (d : Option Tmp) (op : Op) (k : Eff → Option R) : Option R := match op with
  | .call ⟨.value x, args, _⟩ => fO s x fun f g => fArgs s args.toList fun xs g' => callVK T rw m d f xs fun e => k { e with chk := g && g' && e.chk }
  | .binOp op t x y _ => fO s x fun a g => fO s y fun b g' => strK op a b (fun c => k { chk := g && g' && true, v := .val (.bool c) }) (effK (binE P op t a b) fun e => k { e with chk := g && g' && e.chk })
  | .build t ps => fParts s ps.toList fun ps g => buildK P t ps fun e => k { e with chk := g && e.chk }
  | .buildSlice t n ps => fParts s ps.toList fun ps g => effK (buildSliceE P m d t n ps) fun e => k { e with chk := g && e.chk, fresh := 1 }
  | .load t a => match knownT P t with
    | true => fO s a fun a g => effK (loadE P m t a) fun e => k { e with chk := g && e.chk }
    | false => none
  | .store t a x => fO s a fun a g => fO s x fun x g' => effK (storeE P m t a x) fun e => k { e with chk := g && g' && e.chk }
  | .slice t x lo hi mx => match knownE P t with
    | true => fO s x fun x g => fOpt s lo fun lo g1 => fOpt s hi fun hi g2 => fOpt s mx fun mx g3 => effK (sliceE P m t x lo hi mx) fun e => k { e with chk := g && g1 && g2 && g3 && e.chk }
    | false => none
  | .indexAddr t x ix => match knownE P t with
    | true => fO s x fun x g => fO s ix fun ix g' => effK (indexE P m t x ix) fun e => k { e with chk := g && g' && e.chk }
    | false => none
  | .field t x f => match knownF P t f with
    | true => fO s x fun x g => effK (fieldVE P t x f) fun e => k { e with chk := g && e.chk }
    | false => none
  | .convert src dst x => fO s x fun x g => effK (convE P m src dst x) fun e => k { e with chk := g && e.chk }
  | op => effK (opE P T s m d op) k
def operK (ops : Array Oper) (s : List PV) (m : Mem) (o : Oper) (k : Eff → Option R) : Option R := match o.guard with
  | none => opK P T rw s m o.dst o.op k
  | some (g, want) => match (ops[g]?).bind (·.dst) with
    | none => none
    | some t => match gateB want (s.getD t .junk) with
      | none => none
      | some c => match isCallOp o.op with
        | true => brch c (opK P T rw s m o.dst o.op fun e => k { e with v := .gd true e.v }) (k { v := .gd false .junk })
        | false => match hasDead s o.op with
          | true => k { chk := !c, v := .gd false .junk }
          | false => opK P T rw s m o.dst o.op fun e => match e.upd.all fun u => isFr u.2 with
            | true => k { e with chk := e.chk || !c, v := .gd c e.v }
            | false => none
def runF (ops : Array Oper) : List Oper → List PV → Mem → (List Eff → List PV → Mem → Option R) → Option R
  | [], s, m, k => k [] s m
  | o :: r, s, m, k => operK P T rw ops s m o fun e => match e with
    | ⟨chk, v, rd, up, fr⟩ => asrt (freshB m (idOf o.dst) fr) (asrt chk (fV v fun v => fPut s o.dst v fun s => fUp m up fun m => runF ops r s m fun es => k (⟨true, v, rd, up, fr⟩ :: es)))
def loopF (body : List PV → Mem → (Ex → List PV → Mem → Option R) → Option R) (live : List Nat) : Nat → List PV → Mem → (Ex → List PV → Mem → Option R) → Option R
  | 0, _, _, _ => none
  | n + 1, s, m, k => match norm live ⟨s, m⟩ with
    | none => none
    | some ⟨s, m⟩ => fL s fun s => fMm m fun m => body s m fun ex s m => match ex with
      | .normal => loopF body live n s m k
      | ex => k ex s m
def denF (L : (List PV → Mem → (Ex → List PV → Mem → Option R) → Option R) → List Nat → List PV → Mem → (Ex → List PV → Mem → Option R) → Option R) : Code → An → List PV → Mem → (Ex → List PV → Mem → Option R) → Option R
  | .skip, _, s, m, k => k .normal s m
  | .region _ ops draw, an, s, m, k => runF P T rw ops ops.toList s m fun es s m => asrt (!draw || unOk ops es an.un) (k .normal s m)
  | .seq a b, an, s, m, k => denF L a an.fst s m fun ex s m => match ex with
    | .normal => denF L b an.snd s m k
    | ex => k ex s m
  | .cond c t e, an, s, m, k => match opnd s c with
    | (.val (.bool b), g) => asrt g (brch b (denF L t an.fst s m k) (denF L e an.snd s m k))
    | _ => none
  | .block id b, an, s, m, k => denF L b an.fst s m fun ex s m => match ex with
    | .exit j => match j == id with
      | true => k .normal s m
      | false => k (.exit j) s m
    | ex => k ex s m
  | .loop b, an, s, m, k => L (denF L b an.fst) an.live s m k
  | .exit id, _, s, m, k => k (.exit id) s m
  | .ret, _, s, m, k => k .ret s m
  | _, _, _, _, _ => none
def funF (L : (List PV → Mem → (Ex → List PV → Mem → Option (PV × List PV)) → Option (PV × List PV)) → List Nat → List PV → Mem → (Ex → List PV → Mem → Option (PV × List PV)) → Option (PV × List PV)) (fn : Func) (an : An) (args : List PV) : Option (PV × List PV) := match fn.body with
  | some c => match args.length == fn.params.size + fn.nfree && Nat.ble args.length 100 && Nat.ble args.length fn.ntmps with
    | true => fL (enterE fn.ntmps args).s fun s => fMm (enterE fn.ntmps args).m fun m => denF P T rw L c an s m fun ex s m => match ex with
      | .exit _ => none
      | _ => leaveE P fn args ⟨s, m⟩
    | false => none
  | none => none
end
end Go.Pm

/- An operation's effect depends on what it reads alone. -/
namespace Go.Pm
open Go.RowKit

/-- Memory alike in what is read. -/
def AgreeM (m m' : Mem) (rd : List (Nat × Bool)) : Prop := ∀ k wr, (k, wr) ∈ rd → (mget m k).map (·.1) = (mget m' k).map (·.1) ∧ (wr = true → mget m k = mget m' k)
theorem AgreeM.sub {m m' : Mem} {rd rd' : List (Nat × Bool)} (h : AgreeM m m' rd) (hs : ∀ x ∈ rd', x ∈ rd) : AgreeM m m' rd' := fun k wr hk => h k wr (hs _ hk)
theorem AgreeM.left {m m' : Mem} {a b : List (Nat × Bool)} (h : AgreeM m m' (a ++ b)) : AgreeM m m' a := h.sub fun _ hx => List.mem_append.2 (.inl hx)
theorem AgreeM.right {m m' : Mem} {a b : List (Nat × Bool)} (h : AgreeM m m' (a ++ b)) : AgreeM m m' b := h.sub fun _ hx => List.mem_append.2 (.inr hx)
theorem AgreeM.get {m m' : Mem} {rd : List (Nat × Bool)} (h : AgreeM m m' rd) {k : Nat} {wr : Bool} (hk : (k, wr) ∈ rd) {c : Cont} {fz : Bool} (hm : mget m k = some (c, fz)) : ∃ fz', mget m' k = some (c, fz') := by
  have := (h k wr hk).1
  rw [hm] at this
  cases hm' : mget m' k with
  | none => rw [hm'] at this; cases this
  | some o =>
    obtain ⟨c', fz'⟩ := o
    rw [hm'] at this
    simp only [Option.map_some, Option.some.injEq] at this
    subst this
    exact ⟨fz', rfl⟩
theorem AgreeM.getw {m m' : Mem} {rd : List (Nat × Bool)} (h : AgreeM m m' rd) {k : Nat} (hk : (k, true) ∈ rd) : mget m' k = mget m k := ((h k true hk).2 rfl).symm

theorem reads_append (a b : List Nat) : reads (a ++ b) = reads a ++ reads b := by simp [reads]

section
variable {m m' : Mem}
theorem elems_local {x : PV} {e : TypeId} {E : Els} {l : List Nat} (h : elems m x = some (e, E, l)) (ha : AgreeM m m' (reads l)) : elems m' x = some (e, E, l) := by
  have one : ∀ {k : Nat}, l = [k] → (k, false) ∈ reads l := by rintro k rfl; simp [reads]
  cases x with
  | sl => exact h
  | ref r =>
    simp only [elems] at h
    split at h
    · rename_i hr
      simp only [Option.some.injEq, Prod.mk.injEq] at h
      obtain ⟨rfl, rfl, rfl⟩ := h
      obtain ⟨fz, hr'⟩ := ha.get (one rfl) hr
      simp only [elems, hr']
    · cases h
  | win r lo hi e' =>
    simp only [elems] at h
    split at h
    · rename_i hr
      have h0 := h
      obtain ⟨_, h⟩ := bif_some h
      simp only [Option.some.injEq, Prod.mk.injEq] at h
      obtain ⟨rfl, rfl, rfl⟩ := h
      obtain ⟨fz, hr'⟩ := ha.get (one rfl) hr
      simp only [elems, hr']
      exact h0
    · cases h
  | bsl k off n e' =>
    simp only [elems] at h
    split at h
    · rename_i hr
      have h0 := h
      obtain ⟨_, h⟩ := bif_some h
      obtain ⟨_, _, h⟩ := Option.map_eq_some_iff.1 h
      simp only [Prod.mk.injEq] at h
      obtain ⟨rfl, rfl, rfl⟩ := h
      obtain ⟨fz, hr'⟩ := ha.get (one rfl) hr
      simp only [elems, hr']
      exact h0
    · cases h
  | _ => exact h
theorem share1_local {x y : PV} {l : List Nat} (h : share1 m x = some (y, l)) (ha : AgreeM m m' (reads l)) : share1 m' x = some (y, l) := by
  cases x with
  | val | el | agg | spt | clo | smap => exact h
  | mref k =>
    simp only [share1] at h ⊢
    split at h
    · rename_i hk
      simp only [Option.some.injEq, Prod.mk.injEq] at h
      obtain ⟨rfl, rfl⟩ := h
      obtain ⟨fz, hk'⟩ := ha.get (k := k) (wr := false) (by simp [reads]) hk
      simp only [hk']
    · cases h
  | _ =>
    simp only [share1] at h
    obtain ⟨⟨e, E, l'⟩, he, hh⟩ := Option.map_eq_some_iff.1 h
    simp only [Prod.mk.injEq] at hh
    obtain ⟨rfl, rfl⟩ := hh
    simp only [share1, elems_local he ha, Option.map_some]
theorem shareL_local : ∀ {cs xs : List PV} {l : List Nat}, shareL m cs = some (xs, l) → AgreeM m m' (reads l) → shareL m' cs = some (xs, l)
  | [], _, _, h, _ => h
  | c :: r, xs, l, h, ha => by
    simp only [shareL] at h
    split at h
    · rename_i h1 h2
      simp only [Option.some.injEq, Prod.mk.injEq] at h
      obtain ⟨rfl, rfl⟩ := h
      rw [reads_append] at ha
      simp only [shareL, share1_local h1 ha.left, shareL_local h2 ha.right]
    · cases h
theorem share_local {x y : PV} {l : List Nat} (h : share m x = some (y, l)) (ha : AgreeM m m' (reads l)) : share m' x = some (y, l) := by
  cases x with
  | agg cs =>
    obtain ⟨⟨xs, l'⟩, he, hh⟩ := Option.map_eq_some_iff.1 h
    simp only [Prod.mk.injEq] at hh
    obtain ⟨rfl, rfl⟩ := hh
    simp only [share, shareL_local he ha, Option.map_some]
  | _ => simp only [share] at h ⊢; exact share1_local h ha

theorem litE_local {P : Program} {e : TypeId} : ∀ {xs : List (Nat × PV)} {k : Nat} {E : Els} {l : List Nat}, litE P m e k xs = some (E, l) → AgreeM m m' (reads l) → litE P m' e k xs = some (E, l)
  | [], _, _, _, h, _ => h
  | (i, x) :: r, k, E, l, h, ha => by
    simp only [litE] at h ⊢
    obtain ⟨hc, h⟩ := bif_some h
    rw [hc, cond_true]
    split at h
    · rename_i h1 h2
      split at h
      · obtain ⟨hk, h⟩ := bif_some h
        rename_i y l1 E1 l2 kk zs kk' z
        simp only [Option.some.injEq, Prod.mk.injEq] at h
        obtain ⟨rfl, rfl⟩ := h
        rw [reads_append] at ha
        rw [share_local h1 ha.left, litE_local h2 ha.right]
        simp only [hk, cond_true]
      · simp only [Option.some.injEq, Prod.mk.injEq] at h
        obtain ⟨rfl, rfl⟩ := h
        rw [reads_append] at ha
        rw [share_local h1 ha.left, litE_local h2 ha.right]
      · cases h
    · cases h

theorem buildSliceE_local {P : Program} {d : Option Tmp} {t : TypeId} {n : Nat} {xs : List (Nat × PV)} {e : Eff} (h : buildSliceE P m d t n xs = some e) (ha : AgreeM m m' e.reads) : buildSliceE P m' d t n xs = some e := by
  unfold buildSliceE at h ⊢
  split at h
  · obtain ⟨hc, h⟩ := bif_some h
    obtain ⟨⟨E, l⟩, hl, rfl⟩ := Option.map_eq_some_iff.1 h
    rw [hc, cond_true, litE_local hl ha]
    rfl
  · cases h
theorem convE_local {P : Program} {src dst : TypeId} {x : PV} {e : Eff} (h : convE P m src dst x = some e) (ha : AgreeM m m' e.reads) : convE P m' src dst x = some e := by
  unfold convE at h ⊢
  split at h
  · exact h
  · exact h
  · rename_i hs hd
    split at h
    · exact h
    · split at h
      · rename_i he
        obtain ⟨hc, h⟩ := bif_some h
        injection h with h
        subst h
        rw [elems_local he ha]
        simp only [hc, cond_true]
      · cases h
    · cases h
  · cases h
theorem loadE_local {P : Program} {t : TypeId} {x : PV} {e : Eff} (h : loadE P m t x = some e) (ha : AgreeM m m' e.reads) : loadE P m' t x = some e := by
  unfold loadE at h ⊢
  split at h
  · rename_i k off
    split at h
    · rename_i hk
      have h0 := h
      obtain ⟨_, _, rfl⟩ := Option.map_eq_some_iff.1 h
      obtain ⟨fz, hk'⟩ := ha.get (k := k) (wr := false) (by simp) hk
      simp only [hk']
      exact h0
    · cases h
  · rename_i r i off e'
    split at h
    · rename_i hk
      have h0 := h
      obtain ⟨hc, h⟩ := bif_some h
      obtain ⟨_, _, rfl⟩ := Option.map_eq_some_iff.1 h
      obtain ⟨fz, hk'⟩ := ha.get (k := r) (wr := false) (by simp) hk
      simp only [hk']
      exact h0
    · cases h
  · exact h
  · cases h
theorem storeRE_local {P : Program} {t : TypeId} {r i off : Nat} {et : TypeId} {y : PV} {e : Eff} (h : storeRE P m t r i off et y = some e) (ha : AgreeM m m' e.reads) : storeRE P m' t r i off et y = some e := by
  unfold storeRE at h ⊢
  split at h
  · rename_i e' E hr
    have h0 := (bif_some h).1
    replace h := (bif_some h).2
    split at h
    · rename_i z l hsh
      split at h
      · rename_i x' hpp
        split at h
        · rename_i E' hset
          have hnr := (bif_some h).1
          replace h := (bif_some h).2
          injection h with h
          subst h
          have hr' := ha.getw (k := r) (by simp)
          rw [hr] at hr'
          have hsh' := share_local hsh (ha.sub (rd' := reads l) (fun x hx => List.mem_cons_of_mem _ hx))
          simp only [hr', h0, cond_true, hsh', hpp, hset, hnr]
        · cases h
      · cases h
    · cases h
  · cases h
theorem storeE_local {P : Program} {t : TypeId} {x y : PV} {e : Eff} (h : storeE P m t x y = some e) (ha : AgreeM m m' e.reads) : storeE P m' t x y = some e := by
  unfold storeE at h ⊢
  split at h
  · exact storeRE_local h ha
  unfold storeBE at h ⊢
  split at h
  · rename_i k off _
    split at h
    · rename_i hk
      have h0 := h
      obtain ⟨hc, h⟩ := bif_some h
      obtain ⟨_, _, rfl⟩ := Option.map_eq_some_iff.1 h
      have hk' := ha.getw (k := k) (by simp)
      rw [hk] at hk'
      simp only [hk']
      exact h0
    · cases h
  · cases h
theorem indexE_local {P : Program} {t : TypeId} {x y : PV} {e : Eff} (h : indexE P m t x y = some e) (ha : AgreeM m m' e.reads) : indexE P m' t x y = some e := by
  unfold indexE at h ⊢
  split at h
  · split at h
    · rename_i et hu
      split at h
      · rename_i r
        split at h
        · rename_i hk
          have h0 := h
          obtain ⟨hc, h⟩ := bif_some h
          injection h with h
          subst h
          obtain ⟨fz, hk'⟩ := ha.get (k := r) (wr := false) (by simp) hk
          simp only [hk']
          exact h0
        · cases h
      · rename_i r lo hi e''
        split at h
        · rename_i hk
          have h0 := h
          obtain ⟨hc, h⟩ := bif_some h
          injection h with h
          subst h
          obtain ⟨fz, hk'⟩ := ha.get (k := r) (wr := false) (by simp) hk
          simp only [hk']
          exact h0
        · cases h
      · exact h
      · cases h
    · exact h
    · cases h
  · cases h
theorem sliceE_local {P : Program} {t : TypeId} {x : PV} {lo hi mx : Option PV} {e : Eff} (h : sliceE P m t x lo hi mx = some e) (ha : AgreeM m m' e.reads) : sliceE P m' t x lo hi mx = some e := by
  unfold sliceE at h ⊢
  split at h
  · split at h
    · exact h
    · rename_i r
      split at h
      · rename_i hk
        have h0 := h
        obtain ⟨hc, h⟩ := bif_some h
        obtain ⟨_, _, rfl⟩ := Option.map_eq_some_iff.1 h
        obtain ⟨fz, hk'⟩ := ha.get (k := r) (wr := false) (by simp) hk
        simp only [hk']
        exact h0
      · cases h
    · exact h
    · exact h
    · cases h
  · exact h
  · cases h
theorem srcE_local {P : Program} {e : TypeId} {y : PV} {F : Els} {l : List Nat} (h : srcE P m e y = some (F, l)) (ha : AgreeM m m' (reads l)) : srcE P m' e y = some (F, l) := by
  unfold srcE at h ⊢
  split at h
  · exact h
  · obtain ⟨⟨e', E, l'⟩, he, hh⟩ := Option.bind_eq_some_iff.1 h
    have h0 := hh
    obtain ⟨_, hh⟩ := bif_some hh
    simp only [Option.some.injEq, Prod.mk.injEq] at hh
    obtain ⟨rfl, rfl⟩ := hh
    rw [elems_local he ha, Option.bind_some]
    exact h0
theorem baseE_local {P : Program} {e : TypeId} {y : PV} {F : Els} {l : List (Nat × Bool)} {up : List (Nat × Upd)} {full : Bool} (h : baseE P m e y = some (F, l, up, full)) (ha : AgreeM m m' l) : baseE P m' e y = some (F, l, up, full) := by
  unfold baseE at h ⊢
  split at h
  · exact h
  · rename_i r
    split at h
    · rename_i hk
      have h0 := h
      obtain ⟨hc, h⟩ := bif_some h
      simp only [Option.some.injEq, Prod.mk.injEq] at h
      obtain ⟨rfl, rfl, rfl, rfl⟩ := h
      have hk' := ha.getw (k := r) (by simp)
      rw [hk] at hk'
      simp only [hk']
      exact h0
    · cases h
  · rename_i r lo hi e''
    split at h
    · rename_i hk
      have h0 := h
      obtain ⟨hc, h⟩ := bif_some h
      simp only [Option.some.injEq, Prod.mk.injEq] at h
      obtain ⟨rfl, rfl, rfl, rfl⟩ := h
      have hk' := ha.getw (k := r) (by simp)
      rw [hk] at hk'
      simp only [hk']
      exact h0
    · cases h
  · rename_i k off n e'
    split at h
    · rename_i hk
      have h0 := h
      obtain ⟨hc, h⟩ := bif_some h
      obtain ⟨_, _, h⟩ := Option.map_eq_some_iff.1 h
      simp only [Prod.mk.injEq] at h
      obtain ⟨rfl, rfl, rfl, rfl⟩ := h
      obtain ⟨fz, hk'⟩ := ha.get (k := k) (wr := false) (by simp) hk
      simp only [hk']
      exact h0
    · cases h
  · cases h
theorem appendE_local {P : Program} {d : Option Tmp} {t : TypeId} {x y : PV} {e : Eff} (h : appendE P m d t x y = some e) (ha : AgreeM m m' e.reads) : appendE P m' d t x y = some e := by
  unfold appendE at h ⊢
  split at h
  · split at h
    · rename_i hb hs
      have h0 := h
      obtain ⟨_, _, rfl⟩ := Option.map_eq_some_iff.1 h
      rw [baseE_local hb ha.left, srcE_local hs ha.right]
      exact h0
    · cases h
  · cases h
theorem appendZE_local {P : Program} {d : Option Tmp} {t : TypeId} {x y : PV} {e : Eff} (h : appendZE P m d t x y = some e) (ha : AgreeM m m' e.reads) : appendZE P m' d t x y = some e := by
  unfold appendZE at h ⊢
  split at h
  · split at h
    · rename_i hb hs
      have h0 := h
      obtain ⟨_, _, rfl⟩ := Option.map_eq_some_iff.1 h
      rw [baseE_local hb ha, hs]
      exact h0
    · cases h
  · cases h
theorem rowRange_local {x : PV} {q : Nat × Nat × Nat × TypeId × Els} {rd : List (Nat × Bool)} (h : rowRange m x = some q) (hq : (q.1, true) ∈ rd) (ha : AgreeM m m' rd) : rowRange m' x = some q := by
  unfold rowRange at h ⊢
  split at h
  · rename_i r
    split at h
    · rename_i hk
      injection h with h
      subst h
      have hk' := ha.getw (k := r) hq
      rw [hk] at hk'
      simp only [hk']
    · cases h
  · rename_i r lo hi e'
    split at h
    · rename_i hk
      have h0 := (bif_some h).1
      replace h := (bif_some h).2
      injection h with h
      subst h
      have hk' := ha.getw (k := r) hq
      rw [hk] at hk'
      simp only [hk', h0, cond_true]
    · cases h
  · cases h
theorem fillE_local {e : TypeId} {x : PV} {F : Nat → Option (Els × List Nat × PV)} {eff : Eff} (h : fillE m e x F = some eff) (ha : AgreeM m m' eff.reads) : fillE m' e x F = some eff := by
  obtain ⟨r, lo, hi, E, G, l, v, E', h1, h2, h3, rfl⟩ := fillE_cases h
  unfold fillE at h ⊢
  rw [rowRange_local h1 (by simp) ha]
  rw [h1] at h
  exact h
theorem copyE_local {P : Program} {t : TypeId} {x y : PV} {e : Eff} (h : copyE P m t x y = some e) (ha : AgreeM m m' e.reads) : copyE P m' t x y = some e := by
  unfold copyE at h ⊢
  split at h
  · split at h
    · rename_i F l hs
      split at h
      · rename_i k off n e'
        split at h
        · rename_i bt x0 hk
          have h1 := h
          split at h
          · replace h := (bif_some h).2
            injection h with h
            subst h
            have hk' := ha.getw (k := k) (by simp)
            rw [hk] at hk'
            rw [srcE_local hs (ha.sub (rd' := reads l) (fun x hx => List.mem_cons_of_mem _ hx))]
            simp only [hk']
            exact h1
          · cases h
        · cases h
      · rename_i hx
        have h1 := h
        obtain ⟨r, lo, hi, E, G, l', v, E', _, h2, _, rfl⟩ := fillE_cases h
        simp only [Option.some.injEq, Prod.mk.injEq] at h2
        obtain ⟨_, rfl, _⟩ := h2
        rw [srcE_local hs (ha.sub (rd' := reads l) (fun x hx => List.mem_cons_of_mem _ hx))]
        have := fillE_local h1 ha
        revert hx this
        cases x <;> intro hx this <;> first | exact this | exact (hx _ _ _ _ rfl).elim
    · cases h
  · cases h
theorem clearE_local {P : Program} {t : TypeId} {x : PV} {e : Eff} (h : clearE P m t x = some e) (ha : AgreeM m m' e.reads) : clearE P m' t x = some e := by
  unfold clearE at h ⊢
  split at h
  · split at h
    · exact h
    · exact fillE_local h ha
  · cases h
theorem cap1_local {x y : PV} {l : List Nat} (h : cap1 m x = some (y, l)) (ha : AgreeM m m' (reads l)) : cap1 m' x = some (y, l) := by
  unfold cap1 at h ⊢
  split at h
  · rename_i k off
    split at h
    · rename_i hk
      have h0 := (bif_some h).1
      replace h := (bif_some h).2
      obtain ⟨⟨z, l'⟩, hs, hh⟩ := Option.map_eq_some_iff.1 h
      simp only [Prod.mk.injEq] at hh
      obtain ⟨rfl, rfl⟩ := hh
      obtain ⟨fz, hk'⟩ := ha.get (k := k) (wr := false) (by simp [reads]) hk
      have hs' := share_local hs (ha.sub (rd' := reads l') (fun x hx => by simp only [reads, List.map_cons] at hx ⊢; exact List.mem_cons_of_mem _ hx))
      simp only [hk', h0, cond_true, hs', Option.map_some]
    · cases h
  · exact share1_local h ha
theorem capL_local : ∀ {cs xs : List PV} {l : List Nat}, capL m cs = some (xs, l) → AgreeM m m' (reads l) → capL m' cs = some (xs, l)
  | [], _, _, h, _ => h
  | c :: r, xs, l, h, ha => by
    simp only [capL] at h
    split at h
    · rename_i h1 h2
      simp only [Option.some.injEq, Prod.mk.injEq] at h
      obtain ⟨rfl, rfl⟩ := h
      rw [reads_append] at ha
      simp only [capL, cap1_local h1 ha.left, capL_local h2 ha.right]
    · cases h
theorem makeFuncE_local {fn : Fn} {xs ys : List PV} {e : Eff} (h : makeFuncE m fn xs ys = some e) (ha : AgreeM m m' e.reads) : makeFuncE m' fn xs ys = some e := by
  unfold makeFuncE at h ⊢
  split at h
  · exact h
  · obtain ⟨⟨cs, l⟩, hc, rfl⟩ := Option.map_eq_some_iff.1 h
    simp only [capL_local hc ha, Option.map_some]
  · cases h
theorem mapEs_local {t : TypeId} {x : PV} {es : List (PV × PV)} {l : List Nat} (h : mapEs m t x = some (es, l)) (ha : AgreeM m m' (reads l)) : mapEs m' t x = some (es, l) := by
  unfold mapEs at h ⊢
  split at h
  · exact h
  · rename_i k
    split at h
    · rename_i hk
      have h0 := h
      replace h := (bif_some h).2
      simp only [Option.some.injEq, Prod.mk.injEq] at h
      obtain ⟨rfl, rfl⟩ := h
      obtain ⟨fz, hk'⟩ := ha.get (k := k) (wr := false) (by simp [reads]) hk
      simp only [hk']
      exact h0
    · cases h
  · exact h
  · cases h
theorem lookupE_local {P : Program} {t : TypeId} {x k : PV} {ok : Bool} {e : Eff} (h : lookupE P m t x k ok = some e) (ha : AgreeM m m' e.reads) : lookupE P m' t x k ok = some e := by
  unfold lookupE at h ⊢
  split at h
  · split at h
    · rename_i es l k' hes hsh
      have h1 := h
      have h0 := (bif_some h).1
      replace h := (bif_some h).2
      split at h
      · injection h with h
        subst h
        rw [mapEs_local hes ha, share_local hsh (fun k wr hk => by simp [reads] at hk)]
        exact h1
      · cases h
    · cases h
  · cases h
theorem updateE_local {P : Program} {t : TypeId} {x k v : PV} {e : Eff} (h : updateE P m t x k v = some e) (ha : AgreeM m m' e.reads) : updateE P m' t x k v = some e := by
  unfold updateE at h ⊢
  split at h
  · rename_i kt vt id hu
    split at h
    · rename_i t' es hid
      split at h
      · rename_i k' v' l' hsk hsv
        have h1 := h
        replace h := (bif_some h).2
        split at h
        · injection h with h
          subst h
          have hid' := ha.getw (k := id) (by simp)
          rw [hid] at hid'
          simp only [hid', share_local hsk (m' := m') (fun k wr hk => by simp [reads] at hk), share_local hsv (ha.sub (rd' := reads l') (fun x hx => List.mem_cons_of_mem _ hx))]
          exact h1
        · cases h
      · cases h
    · cases h
  · cases h
theorem lenE_local {P : Program} {t : TypeId} {x : PV} {e : Eff} (h : lenE P m t x = some e) (ha : AgreeM m m' e.reads) : lenE P m' t x = some e := by
  unfold lenE at h ⊢
  split at h
  · split at h
    · exact h
    · exact h
    · split at h
      · rename_i hk
        injection h with h
        subst h
        obtain ⟨fz, hk'⟩ := ha.get (k := _) (wr := false) (by simp) hk
        simp only [hk']
      · rename_i r hno
        obtain ⟨⟨e', E, l⟩, he, rfl⟩ := Option.map_eq_some_iff.1 h
        have he' := elems_local he ha
        split
        · rename_i hk'
          simp [elems, hk'] at he'
        · rw [he']; rfl
    · obtain ⟨⟨e', E, l⟩, he, rfl⟩ := Option.map_eq_some_iff.1 h
      rw [elems_local he ha]
      rfl
  · exact h
  · exact h
  · cases h
theorem argE_local {rw : Bool} {x y : PV} {l : List Nat} {bs : List (Nat × TypeId × Bool)} (h : argE m rw x = some (y, l, bs)) (ha : AgreeM m m' (reads l)) (hb : AgreeM m m' (bs.map fun b => (b.1, true))) : argE m' rw x = some (y, l, bs) := by
  unfold argE at h ⊢
  split at h
  · rename_i k off
    split at h
    · rename_i hk
      obtain ⟨hc, h⟩ := bif_some h
      obtain ⟨⟨z, l'⟩, hs, hh⟩ := Option.map_eq_some_iff.1 h
      simp only [Prod.mk.injEq] at hh
      obtain ⟨rfl, rfl, rfl⟩ := hh
      have hk' := hb.getw (k := k) (by simp)
      rw [hk] at hk'
      simp only [hk', hc, cond_true, share_local hs ha, Option.map_some]
    · cases h
  · rename_i r
    split at h
    · rename_i e E fz hk
      cases rw with
      | true =>
        rw [cond_true] at h
        have hfz : fz = false := by cases fz with | true => cases h | false => rfl
        subst hfz
        have h0 := h
        simp only [cond_false, Option.some.injEq, Prod.mk.injEq] at h
        obtain ⟨rfl, rfl, rfl⟩ := h
        have hk' := hb.getw (k := r) (by simp)
        rw [hk] at hk'
        simp only [hk', cond_true, cond_false]
      | false =>
        rw [cond_false] at h
        simp only [Option.some.injEq, Prod.mk.injEq] at h
        obtain ⟨rfl, rfl, rfl⟩ := h
        obtain ⟨fz', hk'⟩ := ha.get (k := r) (wr := false) (by simp [reads]) hk
        simp only [hk', cond_false]
    · cases h
  · obtain ⟨⟨z, l'⟩, hs, hh⟩ := Option.map_eq_some_iff.1 h
    simp only [Prod.mk.injEq] at hh
    obtain ⟨rfl, rfl, rfl⟩ := hh
    rw [share_local hs ha]
    rfl
theorem argsE_local {rw : Bool} : ∀ {xs ys : List PV} {l : List Nat} {bs : List (Nat × TypeId × Bool)}, argsE m rw xs = some (ys, l, bs) → AgreeM m m' (reads l) → AgreeM m m' (bs.map fun b => (b.1, true)) → argsE m' rw xs = some (ys, l, bs)
  | [], _, _, _, h, _, _ => h
  | c :: r, ys, l, bs, h, ha, hb => by
    simp only [argsE] at h
    split at h
    · rename_i h1 h2
      simp only [Option.some.injEq, Prod.mk.injEq] at h
      obtain ⟨rfl, rfl, rfl⟩ := h
      rw [reads_append] at ha
      rw [List.map_append] at hb
      simp only [argsE, argE_local h1 ha.left hb.left, argsE_local h2 ha.right hb.right]
    · cases h
theorem callE_local {T : FuncId → List PV → Option (PV × List PV)} {d : Option Tmp} {f : FuncId} {args : List PV} {e : Eff} (h : callE T m d f args = some e) (ha : AgreeM m m' e.reads) : callE T m' d f args = some e := by
  unfold callE at h ⊢
  obtain ⟨hf, h⟩ := bif_some h
  rw [hf, cond_true]
  generalize (T (f + 1000000) []).isSome = rw at *
  unfold callE1 at h ⊢
  split at h
  · rename_i hargs
    have h0 := h
    split at h
    · split at h
      · obtain ⟨_, h⟩ := bif_some h
        injection h with h
        subst h
        rw [argsE_local hargs ha.left ha.right]
        exact h0
      · cases h
    · cases h
  · cases h
end
end Go.Pm

/- An operation's effect depends on the slots and objects that it reads alone. -/
namespace Go.Pm
open Go.RowKit

section
variable {P : Program} {T : FuncId → List PV → Option (PV × List PV)} {s s' : List PV} {m m' : Mem} {d : Option Tmp}

def SameAt (s s' : List PV) (xs : List Operand) : Prop := ∀ t, Operand.tmp t ∈ xs → s.getD t .junk = s'.getD t .junk
theorem SameAt.sub {xs ys : List Operand} (h : SameAt s s' xs) (hs : ∀ x ∈ ys, x ∈ xs) : SameAt s s' ys := fun t ht => h t (hs _ ht)
theorem opnd_congr {x : Operand} (h : SameAt s s' [x]) : opnd s x = opnd s' x := by
  cases x with
  | tmp t => simp only [opnd]; rw [h t (by simp)]
  | _ => rfl
theorem argsV_congr : ∀ {l : List Operand}, SameAt s s' l → argsV s l = argsV s' l
  | [], _ => rfl
  | x :: r, h => by
    simp only [argsV]
    rw [opnd_congr (h.sub (ys := [x]) (by simp)), argsV_congr (l := r) (h.sub (by intro y hy; simp [hy]))]
theorem partsV_congr : ∀ {l : List (Nat × Operand)}, SameAt s s' (l.map (·.2)) → partsV s l = partsV s' l
  | [], _ => rfl
  | (i, x) :: r, h => by
    simp only [partsV]
    rw [opnd_congr (x := x) (h.sub (by simp)), partsV_congr (l := r) (h.sub (by intro y hy; simp only [List.map_cons, List.mem_cons]; exact .inr hy))]
theorem optV_congr {o : Option Operand} (h : SameAt s s' o.toList) : optV s o = optV s' o := by
  cases o with
  | none => rfl
  | some x => simp only [optV]; rw [opnd_congr (x := x) (h.sub (by simp))]

theorem opE_congr {op : Op} (h : SameAt s s' op.operands.toList) : opE P T s m d op = opE P T s' m d op := by
  cases op with
  | move x => simp only [opE]; rw [opnd_congr (x := x) (h.sub (by simp [Op.operands]))]
  | assign x => simp only [opE]; rw [opnd_congr (x := x) (h.sub (by simp [Op.operands]))]
  | pick c x y => simp only [opE]; rw [opnd_congr (x := c) (h.sub (by simp [Op.operands])), opnd_congr (x := x) (h.sub (by simp [Op.operands])), opnd_congr (x := y) (h.sub (by simp [Op.operands]))]
  | alloc t => rfl
  | box t x => simp only [opE]; rw [opnd_congr (x := x) (h.sub (by simp [Op.operands]))]
  | build t parts => simp only [opE]; rw [partsV_congr (h.sub (by simp [Op.operands]))]
  | buildSlice t n parts => simp only [opE]; rw [partsV_congr (h.sub (by simp [Op.operands]))]
  | load t x => simp only [opE]; rw [opnd_congr (x := x) (h.sub (by simp [Op.operands]))]
  | store t x y => simp only [opE]; rw [opnd_congr (x := x) (h.sub (by simp [Op.operands])), opnd_congr (x := y) (h.sub (by simp [Op.operands]))]
  | nilCheck x => simp only [opE]; rw [opnd_congr (x := x) (h.sub (by simp [Op.operands]))]
  | binOp op t x y yt => simp only [opE]; rw [opnd_congr (x := x) (h.sub (by simp [Op.operands])), opnd_congr (x := y) (h.sub (by simp [Op.operands]))]
  | unOp op t x => simp only [opE]; rw [opnd_congr (x := x) (h.sub (by simp [Op.operands]))]
  | convert src dst x => simp only [opE]; rw [opnd_congr (x := x) (h.sub (by simp [Op.operands]))]
  | slice t x lo hi mx => simp only [opE]; rw [opnd_congr (x := x) (h.sub (by simp [Op.operands])), optV_congr (o := lo) (h.sub (by cases lo <;> simp [Op.operands])), optV_congr (o := hi) (h.sub (by cases hi <;> simp [Op.operands])), optV_congr (o := mx) (h.sub (by cases mx <;> simp [Op.operands]))]
  | fieldAddr t x f => simp only [opE]; rw [opnd_congr (x := x) (h.sub (by simp [Op.operands]))]
  | field t x f => simp only [opE]; rw [opnd_congr (x := x) (h.sub (by simp [Op.operands]))]
  | indexAddr t x ix => simp only [opE]; rw [opnd_congr (x := x) (h.sub (by simp [Op.operands])), opnd_congr (x := ix) (h.sub (by simp [Op.operands]))]
  | index t x ix => simp only [opE]; rw [opnd_congr (x := x) (h.sub (by simp [Op.operands])), opnd_congr (x := ix) (h.sub (by simp [Op.operands]))]
  | extract x i => simp only [opE]; rw [opnd_congr (x := x) (h.sub (by simp [Op.operands]))]
  | call c =>
    obtain ⟨callee, args, tys⟩ := c
    have hargs : SameAt s s' args.toList := h.sub (by intro y hy; simp [Op.operands, Call.operands]; exact .inr (by simpa using hy))
    simp only [opE, callOp]
    split
    · split
      · rename_i x y t t' ha ht
        rw [ha] at hargs
        rw [opnd_congr (x := x) (hargs.sub (by simp)), opnd_congr (x := y) (hargs.sub (by simp))]
      · rfl
    · split
      · rename_i x y t t' ha ht
        rw [ha] at hargs
        rw [opnd_congr (x := x) (hargs.sub (by simp)), opnd_congr (x := y) (hargs.sub (by simp))]
      · rfl
    · split
      · rename_i x t ha ht
        rw [ha] at hargs
        rw [opnd_congr (x := x) (hargs.sub (by simp))]
      · rfl
    · split
      · rename_i x t ha ht
        rw [ha] at hargs
        rw [opnd_congr (x := x) (hargs.sub (by simp))]
      · rfl
    · split
      · rename_i x t ha ht
        rw [ha] at hargs
        rw [opnd_congr (x := x) (hargs.sub (by simp))]
      · rfl
    · split
      · rename_i x y ha
        rw [ha] at hargs
        rw [opnd_congr (x := x) (hargs.sub (by simp)), opnd_congr (x := y) (hargs.sub (by simp))]
      · rfl
    · split
      · rename_i x y ha
        rw [ha] at hargs
        rw [opnd_congr (x := x) (hargs.sub (by simp)), opnd_congr (x := y) (hargs.sub (by simp))]
      · rfl
    · rename_i x
      rw [argsV_congr hargs, opnd_congr (x := x) (h.sub (by simp [Op.operands, Call.operands]))]
    · rfl
  | lookup t x k ok => simp only [opE]; rw [opnd_congr (x := x) (h.sub (by simp [Op.operands])), opnd_congr (x := k) (h.sub (by simp [Op.operands]))]
  | mapUpdate t x k v => simp only [opE]; rw [opnd_congr (x := x) (h.sub (by simp [Op.operands])), opnd_congr (x := k) (h.sub (by simp [Op.operands])), opnd_congr (x := v) (h.sub (by simp [Op.operands]))]
  | makeSlice t l c => simp only [opE]; rw [opnd_congr (x := l) (h.sub (by simp [Op.operands])), opnd_congr (x := c) (h.sub (by simp [Op.operands]))]
  | makeFunc fn first caps =>
    simp only [opE]
    rw [argsV_congr (l := first.toList) (h.sub (by intro y hy; simp only [Op.operands, Array.toList_append, List.mem_append]; exact .inl hy)), argsV_congr (l := caps.toList) (h.sub (by intro y hy; simp only [Op.operands, Array.toList_append, List.mem_append]; exact .inr hy))]
  | _ => rfl

theorem withC_local {c : Bool} {e e' : Option Eff} (h : ∀ e0, e = some e0 → e' = some e0) {r : Eff} (hr : withC c e = some r) : withC c e' = some r := by
  obtain ⟨e0, h0, hh⟩ := Option.map_eq_some_iff.1 hr
  simp only [withC, h e0 h0, Option.map_some, hh]
theorem opE_mem {op : Op} {e : Eff} (h : opE P T s m d op = some e) (ha : AgreeM m m' e.reads) : opE P T s m' d op = some e := by
  have rw1 : ∀ {c : Bool} {f : Mem → Option Eff}, (∀ e0, f m = some e0 → AgreeM m m' e0.reads → f m' = some e0) → withC c (f m) = some e → withC c (f m') = some e := by
    intro c f hf h
    refine withC_local (fun e0 h0 => hf e0 h0 ?_) h
    obtain ⟨e1, h1, _, _, _, _, h2⟩ := withC_some h
    rw [h0] at h1
    injection h1 with h1
    subst h1
    rwa [h2] at ha
  have rw2 : ∀ {c : Bool} {f : Mem → Option Eff}, (∀ e0, f m = some e0 → AgreeM m m' e0.reads → f m' = some e0) → withC c (withF (f m)) = some e → withC c (withF (f m')) = some e := by
    intro c f hf h
    refine rw1 (f := fun m => withF (f m)) (fun e0 h0 ha0 => ?_) h
    obtain ⟨e1, h1, h2⟩ := Option.map_eq_some_iff.1 h0
    subst h2
    simp only [withF, hf e1 h1 ha0, Option.map_some]
  cases op with
  | buildSlice t n parts => exact rw2 (f := fun m => buildSliceE P m d t n _) (fun _ h ha => buildSliceE_local h ha) h
  | load t x =>
    simp only [opE] at h ⊢
    obtain ⟨hk, h⟩ := bif_some h
    rw [hk, cond_true]
    exact rw1 (f := fun m => loadE P m t _) (fun _ h ha => loadE_local h ha) h
  | store t x y => exact rw1 (f := fun m => storeE P m t _ _) (fun _ h ha => storeE_local h ha) h
  | convert src dst x => exact rw1 (f := fun m => convE P m src dst _) (fun _ h ha => convE_local h ha) h
  | slice t x lo hi mx =>
    simp only [opE] at h ⊢
    obtain ⟨hk, h⟩ := bif_some h
    rw [hk, cond_true]
    exact rw1 (f := fun m => sliceE P m t _ _ _ _) (fun _ h ha => sliceE_local h ha) h
  | indexAddr t x ix =>
    simp only [opE] at h ⊢
    obtain ⟨hk, h⟩ := bif_some h
    rw [hk, cond_true]
    exact rw1 (f := fun m => indexE P m t _ _) (fun _ h ha => indexE_local h ha) h
  | call c =>
    obtain ⟨callee, args, tys⟩ := c
    simp only [opE, callOp] at h ⊢
    split at h
    · split at h
      · rename_i x y t t' _ _
        cases htt : (t == t') with
        | true =>
          rw [htt, cond_true] at h
          rw [cond_true]
          exact rw2 (f := fun m => appendE P m d _ _ _) (fun _ h ha => appendE_local h ha) h
        | false =>
          rw [htt, cond_false] at h
          rw [cond_false]
          have hk := (bif_some h).1
          replace h := (bif_some h).2
          rw [hk, cond_true]
          exact rw2 (f := fun m => appendZE P m d _ _ _) (fun _ h ha => appendZE_local h ha) h
      · cases h
    · split at h
      · obtain ⟨hk, h⟩ := bif_some h
        rw [hk, cond_true]
        exact rw1 (f := fun m => copyE P m _ _ _) (fun _ h ha => copyE_local h ha) h
      · cases h
    · split at h
      · exact rw1 (f := fun m => clearE P m _ _) (fun _ h ha => clearE_local h ha) h
      · cases h
    · split at h
      · exact rw1 (f := fun m => lenE P m _ _) (fun _ h ha => lenE_local h ha) h
      · cases h
    · exact h
    · exact h
    · exact h
    · refine rw1 (f := fun m => callV T m d _ _) (fun e0 h ha => ?_) h
      unfold callV at h ⊢
      split at h
      · exact callE_local h ha
      · exact callE_local h ha
      · cases h
    · cases h
  | lookup t x k ok => exact rw1 (f := fun m => lookupE P m t _ _ ok) (fun _ h ha => lookupE_local h ha) h
  | mapUpdate t x k v => exact rw1 (f := fun m => updateE P m t _ _ _) (fun _ h ha => updateE_local h ha) h
  | makeFunc fn first caps => exact rw1 (f := fun m => makeFuncE m _ _ _) (fun _ h ha => makeFuncE_local h ha) h
  | _ => exact h

theorem hasDead_congr {s s' : List PV} {op : Op} (h : SameAt s s' op.operands.toList) : hasDead s op = hasDead s' op := by
  have key : ∀ l : List Operand, (∀ x ∈ l, x ∈ op.operands.toList) → l.any (deadO s) = l.any (deadO s') := by
    intro l
    induction l with
    | nil => intro _; rfl
    | cons x r ih =>
      intro hl
      simp only [List.any_cons]
      rw [ih fun y hy => hl y (List.mem_cons_of_mem _ hy)]
      have hx : deadO s x = deadO s' x := by
        cases x with
        | tmp t => simp only [deadO]; rw [h t (hl _ (by simp))]
        | _ => rfl
      rw [hx]
  unfold hasDead
  split
  · rename_i c x y
    have h1 := key [c] (fun x hx => by
      simp only [List.mem_singleton] at hx
      subst hx
      simp [Op.operands])
    simpa using h1
  · exact key _ fun x hx => hx
/-- The slots that an operation looks at. -/
def Looks (ops : Array Oper) (o : Oper) (t : Tmp) : Prop := t ∈ o.looksAt ops
theorem operE_local {ops : Array Oper} {st st' : St} {o : Oper} {e : Eff} (h : operE P T ops st o = some e) (hs : ∀ t, t ∈ o.looksAt ops → st.s.getD t .junk = st'.s.getD t .junk) (ha : AgreeM st.m st'.m e.reads) : operE P T ops st' o = some e := by
  have hop : SameAt st.s st'.s o.op.operands.toList := fun t ht => hs t (List.mem_append_left _ (List.mem_filterMap.2 ⟨.tmp t, ht, rfl⟩))
  unfold operE at h ⊢
  split at h
  · rename_i hg
    rw [← opE_congr hop]
    exact opE_mem h ha
  · rename_i g want hg
    split at h
    · cases h
    · rename_i t ht
      have ht' : t ∈ o.looksAt ops := by
        unfold Oper.looksAt
        refine List.mem_append_right _ ?_
        simp [hg, ht]
      rw [← hs t ht']
      split at h
      · cases h
      · rename_i c hc
        cases hco : isCallOp o.op with
        | true =>
          rw [hco, cond_true] at h
          rw [cond_true]
          cases c with
          | false => exact h
          | true =>
            rw [cond_true] at h ⊢
            split at h
            · cases h
            · rename_i e0 h0
              injection h with h
              subst h
              rw [← opE_congr hop, opE_mem h0 ha]
        | false =>
        rw [hco, cond_false] at h
        rw [cond_false, ← hasDead_congr hop]
        cases hd : hasDead st.s o.op with
        | true => rw [hd, cond_true] at h; rw [cond_true]; exact h
        | false =>
        rw [hd, cond_false] at h
        rw [cond_false]
        split at h
        · cases h
        · rename_i e0 h0
          obtain ⟨hfr, h⟩ := bif_some h
          injection h with h
          subst h
          rw [← opE_congr hop, opE_mem h0 ha]
          simp only [hfr, cond_true]
end
end Go.Pm

/- Regions, in text order: what they come to. -/
namespace Go.Pm
open Go.RowKit

section
variable {P : Program} {W : World} {ps : List Nat} {G : Ghost} {m : Mem} {w : World} {s : List PV} {a : Act} {T : FuncId → List PV → Option (PV × List PV)}

theorem InvM.frz (h : InvM P W ps G m w) (k : Nat) : ∃ G', Ext G G' ∧ InvM P W ps G' (applyUpd m (k, .freeze)) w := by
  cases hk : mget m k with
  | none => exact ⟨G, Ext.refl G, by simpa [applyUpd, hk] using h⟩
  | some o =>
    obtain ⟨c, fz⟩ := o
    rw [applyUpd_freeze hk]
    by_cases hc : c = .dead
    · subst hc
      refine ⟨G, Ext.refl G, h.go (Ext.refl G) ⟨rfl, rfl, rfl, Nat.le_refl _⟩ (fun j => j = k) ?_ ?_ (fun _ _ _ => rfl) ?_ ?_ ?_ ?_ ?_ ?_⟩
      · intro j hj; rw [mget_mset, if_neg (Ne.symm hj)]
      · intro j o hj; rw [mget_mset]; split <;> simp [hj]
      · intro b cs h1 h2; rw [h1] at h2; cases h2
      · intro b cs h1 h2; rw [h1] at h2; cases h2
      · rintro j o rfl hj
        rw [mget_mset, if_pos rfl, hk] at hj
        injection hj with hj
        subst hj
        trivial
      · rintro i j c d rfl hi
        rw [mget_mset, if_pos rfl, hk] at hi
        injection hi with hi
        injection hi with _ hi
        cases hi
      · intro r v h1 h2; rw [h1] at h2; cases h2
      · intro r v h1 h2; rw [h1] at h2; cases h2
    · obtain ⟨G', h1, h2, _⟩ := h.freeze hk hc
      exact ⟨G', h1, h2⟩
theorem InvM.frzs : ∀ (us : List (Nat × Upd)) {G : Ghost} {m : Mem}, InvM P W ps G m w → (∀ u ∈ us, isFr u.2 = true) → ∃ G', Ext G G' ∧ InvM P W ps G' (applyAll m us) w
  | [], G, m, h, _ => ⟨G, Ext.refl G, h⟩
  | (k, u) :: us, G, m, h, hu => by
    have hk := hu (k, u) (by simp)
    cases u with
    | freeze =>
      obtain ⟨G1, h1, h2⟩ := h.frz k
      obtain ⟨G2, h3, h4⟩ := InvM.frzs us h2 (fun v hv => hu v (by simp [hv]))
      exact ⟨G2, h1.trans h3, h4⟩
    | new c fz => cases hk
    | cont c => cases hk

theorem RV.rs {x : PV} {v : Value} (h : RV P G x v) : RS P G x v := by
  cases x with
  | gd g x => cases h with | sh h => cases h
  | _ => exact h
theorem putS_length (s : List PV) (d : Option Tmp) (v : PV) : (putS s d v).length = s.length := by cases d <;> simp [putS]
theorem InvF.put (h : InvF P G s a) {d : Option Tmp} {x : PV} {v : Value} (hv : RS P G x v) : InvF P G (putS s d x) (a.put d v) := by
  cases d with
  | none => exact h
  | some d =>
    refine ⟨by simp [putS, Act.put, h.size], fun i y hy => ?_, h.defers⟩
    simp only [putS] at hy
    rw [List.getElem?_set] at hy
    simp only [Act.put]
    split at hy
    · rename_i hd
      subst hd
      split at hy
      · rename_i hlt
        injection hy with hy
        subst hy
        have : d < a.tmps.size := by rw [h.size]; exact hlt
        simpa [Array.getD_eq_getD_getElem?, this] using hv
      · cases hy
    · rename_i hd
      have := h.slot i y hy
      simpa [Array.getD_eq_getD_getElem?, Array.getElem?_setIfInBounds_ne hd] using this

/-- A guard, seen on both sides. -/
theorem gate_wanted {ops : Array Oper} {o : Oper} {g : Nat} {want : Bool} {t : Tmp} {c : Bool} (hF : InvF P G s a) (hg : o.guard = some (g, want)) (ht : (ops[g]?).bind (·.dst) = some t) (hc : gateB want (s.getD t .junk) = some c) :
    Region.wanted o (yielded ops a.tmps) = c := by
  have hy : yielded ops a.tmps g = match a.tmps[t]? with | some (.bool b) => some b | _ => none := by
    unfold yielded
    rw [ht]
    rfl
  unfold Region.wanted
  rw [hg]
  simp only [hy]
  rw [List.getD_eq_getElem?_getD] at hc
  cases hs : s[t]? with
  | none => rw [hs] at hc; cases hc
  | some x =>
    rw [hs] at hc
    have hsl := hF.slot t x hs
    have hlt : t < a.tmps.size := by rw [hF.size]; exact (List.getElem?_eq_some_iff.1 hs).1
    rw [Array.getD_eq_getD_getElem?, Array.getElem?_eq_getElem hlt] at hsl
    rw [Array.getElem?_eq_getElem hlt]
    simp only [Option.getD_some] at hsl hc
    generalize a.tmps[t] = v at hsl
    unfold gateB at hc
    split at hc
    · injection hc with hc
      subst hc
      obtain ⟨rfl, _⟩ := RV.val_inv hsl
      simp
    · rename_i gg b
      injection hc with hc
      subst hc
      cases gg with
      | true =>
        obtain ⟨rfl, _⟩ := (hsl.1 rfl).val_inv
        simp
      | false =>
        have := hsl.2 rfl
        subst this
        rfl
    · rename_i gg
      cases gg with
      | true => cases hc
      | false =>
        injection hc with hc
        subst hc
        have := hsl.2 rfl
        subst this
        rfl
    · cases hc

theorem freshB_spec {n k : Nat} (h : freshB m n k = true) : ∀ j, j < k → mget m (n + j) = none := by
  induction k with
  | zero => intro j hj; omega
  | succ k ih =>
    simp only [freshB, Bool.and_eq_true, Option.isNone_iff_eq_none] at h
    intro j hj
    by_cases hjk : j = k
    · subst hjk; exact h.1
    · exact ih h.2 j (by omega)

/-- One operation of a region. -/
theorem operE_step {ops : Array Oper} {i : Nat} {o : Oper} {st : St} {e : Eff} {K : Act → World → Prop} {Q : Exit → Act → World → Prop} (hT : TableOk P T) (hi : ops[i]? = some o) (h : operE P T ops st o = some e)
    (hfr : freshB st.m (idOf o.dst) e.fresh = true) (hc : e.chk = true) (hI : InvM P W ps G st.m w) (hF : InvF P G st.s a)
    (hK : ∀ G' a' w', Ext G G' → InvM P W ps G' (ap st o.dst e).m w' → InvF P G' (ap st o.dst e).s a' → K a' w') : wpOp P ops Q i K a w := by
  unfold wpOp
  simp only [hi]
  have hfr := freshB_spec hfr
  unfold operE at h
  split at h
  · rename_i hg
    have hw : Region.wanted o (yielded ops a.tmps) = true := by unfold Region.wanted; rw [hg]
    rw [hw]
    simp only [if_true]
    refine .inl (opE_wp hT hI hF h hc hfr fun v w' hd => ?_)
    obtain ⟨G', h1, h2, h3⟩ := hd
    exact hK G' _ w' h1 h2 ((hF.mono h1).put h3.rs)
  · rename_i g want hg
    split at h
    · cases h
    · rename_i t ht
      split at h
      · cases h
      · rename_i c hcnd
        have hw := gate_wanted hF hg ht hcnd
        cases hco : isCallOp o.op with
        | true =>
          rw [hco, cond_true] at h
          rw [hw]
          cases c with
          | true =>
            rw [cond_true] at h
            split at h
            · cases h
            · rename_i e0 h0
              injection h with h
              subst h
              simp only [if_true]
              refine .inl (opE_wp hT hI hF h0 hc hfr fun v w' hd => ?_)
              obtain ⟨G', h1, h2, h3⟩ := hd
              exact hK G' _ w' h1 h2 ((hF.mono h1).put ⟨fun _ => h3, fun h => by cases h⟩)
          | false =>
            rw [cond_false] at h
            injection h with h
            subst h
            simp only [Bool.false_eq_true, if_false]
            exact hK G _ w (Ext.refl G) hI (hF.put ⟨fun h => (by cases h), fun _ => rfl⟩)
        | false =>
        rw [hco, cond_false] at h
        cases hd : hasDead st.s o.op with
        | true =>
          rw [hd, cond_true] at h
          injection h with h
          subst h
          rw [hw]
          cases c with
          | true => cases hc
          | false =>
            simp only [Bool.false_eq_true, if_false]
            exact hK G _ w (Ext.refl G) hI (hF.put ⟨fun h => (by cases h), fun _ => rfl⟩)
        | false =>
        rw [hd, cond_false] at h
        split at h
        · cases h
        · rename_i e0 h0
          obtain ⟨hall, h⟩ := bif_some h
          injection h with h
          subst h
          simp only [List.all_eq_true] at hall
          rw [hw]
          cases c with
          | true =>
            simp only [if_true]
            refine .inl (opE_wp hT hI hF h0 (by simpa using hc) hfr fun v w' hd => ?_)
            obtain ⟨G', h1, h2, h3⟩ := hd
            exact hK G' _ w' h1 h2 ((hF.mono h1).put ⟨fun _ => h3, fun h => by cases h⟩)
          | false =>
            simp only [Bool.false_eq_true, if_false]
            obtain ⟨G', h1, h2⟩ := hI.frzs e0.upd hall
            exact hK G' _ w h1 h2 ((hF.mono h1).put ⟨fun h => (by cases h), fun _ => rfl⟩)

/-- Operations, carried out in text order. -/
def Runs (P : Program) (T : FuncId → List PV → Option (PV × List PV)) (ops : Array Oper) : List Oper → St → List Eff → St → Prop
  | [], st, [], st' => st' = st
  | o :: l, st, e :: es, st' => operE P T ops st o = some e ∧ freshB st.m (idOf o.dst) e.fresh = true ∧ e.chk = true ∧ Runs P T ops l (ap st o.dst e) es st'
  | _, _, _, _ => False
theorem runOps_spec {R : Type} {ops : Array Oper} {r : R} : ∀ {l : List Oper} {st : St} {k : List Eff → St → Option R}, runOps P T ops l st k = some r → ∃ es st', Runs P T ops l st es st' ∧ k es st' = some r
  | [], st, k, h => ⟨[], st, rfl, h⟩
  | o :: l, st, k, h => by
    simp only [runOps] at h
    split at h
    · cases h
    · rename_i e he
      obtain ⟨hc, h⟩ := bif_some h
      simp only [Bool.and_eq_true] at hc
      obtain ⟨es, st', h1, h2⟩ := runOps_spec h
      exact ⟨e :: es, st', ⟨he, hc.1, hc.2, h1⟩, h2⟩

theorem wpOps_runs {ops : Array Oper} {Q : Exit → Act → World → Prop} (hT : TableOk P T) : ∀ {l : List Oper} {st : St} {es : List Eff} {st' : St} {i : Nat} {G : Ghost} {a : Act} {w : World}, Runs P T ops l st es st' → (∀ (j : Nat) (o : Oper), l[j]? = some o → ops[i + j]? = some o) →
    InvM P W ps G st.m w → InvF P G st.s a → (∀ G' a' w', Ext G G' → InvM P W ps G' st'.m w' → InvF P G' st'.s a' → Q .normal a' w') → wpOps P ops Q (List.range' i l.length) a w
  | [], st, [], st', i, G, a, w, h, _, hI, hF, hQ => by
    have h : st' = st := h
    subst h
    exact hQ G a w (Ext.refl G) hI hF
  | [], _, _ :: _, _, _, _, _, _, h, _, _, _, _ => h.elim
  | _ :: _, _, [], _, _, _, _, _, h, _, _, _, _ => h.elim
  | o :: l, st, e :: es, st', i, G, a, w, h, hl, hI, hF, hQ => by
    obtain ⟨h1, h2, h3, h4⟩ := h
    rw [List.length_cons, List.range'_succ, wpOps_cons]
    refine operE_step hT (hl 0 o rfl) h1 h2 h3 hI hF fun G' a' w' he hI' hF' => ?_
    exact wpOps_runs hT h4 (fun j o hj => by rw [show i + 1 + j = i + (j + 1) by omega]; exact hl (j + 1) o hj) hI' hF' fun G2 a2 w2 he2 => hQ G2 a2 w2 (he.trans he2)
end
end Go.Pm

/- Regions whose order is drawn: any order comes to what the text's order comes to. -/
namespace Go.Pm
open Go.RowKit

/-! ### What is seen of a state, under some of the operations -/
def foldD (D : Nat → Bool) : Nat → List (Oper × Eff) → St → St
  | _, [], st => st
  | c, x :: r, st => foldD D (c + 1) r (bif D c then ap st x.1.dst x.2 else st)

theorem foldD_none {D : Nat → Bool} : ∀ (r : List (Oper × Eff)) (c : Nat) (st : St), (∀ j, c ≤ j → D j = false) → foldD D c r st = st
  | [], _, _, _ => rfl
  | x :: r, c, st, h => by
    simp only [foldD, h c (Nat.le_refl _), cond_false]
    exact foldD_none r (c + 1) st fun j hj => h j (by omega)
theorem foldD_congr {D D' : Nat → Bool} : ∀ (r : List (Oper × Eff)) (c : Nat) (st : St), (∀ j, j < r.length → D (c + j) = D' (c + j)) → foldD D c r st = foldD D' c r st
  | [], _, _, _ => rfl
  | x :: r, c, st, h => by
    have h0 := h 0 (by simp)
    simp only [Nat.add_zero] at h0
    simp only [foldD, h0]
    exact foldD_congr r (c + 1) _ fun j hj => by rw [show c + 1 + j = c + (j + 1) by omega]; exact h (j + 1) (by simpa using hj)

section
variable {α : Type} {obs : St → α} {f : Oper × Eff → α → α}
theorem foldD_obs (hobs : ∀ st x, obs (ap st x.1.dst x.2) = f x (obs st)) {D D' : Nat → Bool} : ∀ (r : List (Oper × Eff)) (c : Nat) (st st' : St),
    (∀ j x, r[j]? = some x → D (c + j) ≠ D' (c + j) → ∀ a, f x a = a) → obs st = obs st' → obs (foldD D c r st) = obs (foldD D' c r st')
  | [], _, _, _, _, h0 => h0
  | x :: r, c, st, st', h, h0 => by
    simp only [foldD]
    refine foldD_obs hobs r (c + 1) _ _ (fun j y hj hne => h (j + 1) y (by simpa using hj) (by rwa [show c + (j + 1) = c + 1 + j by omega])) ?_
    have hx := h 0 x rfl
    simp only [Nat.add_zero] at hx
    cases hd : D c <;> cases hd' : D' c <;> simp only [cond_true, cond_false, hobs]
    · exact h0
    · rw [hx (by rw [hd, hd']; simp)]; exact h0
    · rw [hx (by rw [hd, hd']; simp)]; exact h0
    · rw [h0]
theorem foldD_push (hobs : ∀ st x, obs (ap st x.1.dst x.2) = f x (obs st)) {D D' : Nat → Bool} {x : Oper × Eff} : ∀ (r : List (Oper × Eff)) (c : Nat) (st st1 : St),
    obs st1 = f x (obs st) → (∀ j, c ≤ j → D' j = D j) → (∀ j y, r[j]? = some y → D (c + j) = true → ∀ a, f y (f x a) = f x (f y a)) → obs (foldD D' c r st1) = f x (obs (foldD D c r st))
  | [], _, _, _, h, _, _ => h
  | y :: r, c, st, st1, h, hD, hc => by
    simp only [foldD, hD c (Nat.le_refl _)]
    refine foldD_push hobs r (c + 1) _ _ ?_ (fun j hj => hD j (by omega)) (fun j z hj hz => hc (j + 1) z (by simpa using hj) (by rwa [show c + (j + 1) = c + 1 + j by omega]))
    cases hd : D c with
    | false => exact h
    | true => simp only [cond_true, hobs, h]; exact hc 0 y rfl hd _
theorem foldD_insert (hobs : ∀ st x, obs (ap st x.1.dst x.2) = f x (obs st)) {D D' : Nat → Bool} {x : Oper × Eff} : ∀ (r : List (Oper × Eff)) (i c : Nat) (st : St), r[i]? = some x → D (c + i) = false → D' (c + i) = true →
    (∀ j, j ≠ c + i → D' j = D j) → (∀ j y, i < j → r[j]? = some y → D (c + j) = true → ∀ a, f y (f x a) = f x (f y a)) → obs (foldD D' c r st) = f x (obs (foldD D c r st))
  | [], i, _, _, h, _, _, _, _ => by simp at h
  | y :: r, 0, c, st, h, h0, h1, hD, hc => by
    simp only [List.getElem?_cons_zero, Option.some.injEq] at h
    subst h
    simp only [Nat.add_zero] at h0 h1 hD
    simp only [foldD, h0, h1, cond_true, cond_false]
    exact foldD_push hobs r (c + 1) st _ (hobs _ _) (fun j hj => hD j (by omega)) (fun j z hj hz => hc (j + 1) z (by omega) (by simpa using hj) (by rwa [show c + (j + 1) = c + 1 + j by omega]))
  | y :: r, i + 1, c, st, h, h0, h1, hD, hc => by
    simp only [foldD, hD c (by omega)]
    exact foldD_insert hobs r i (c + 1) _ (by simpa using h) (by rwa [show c + 1 + i = c + (i + 1) by omega]) (by rwa [show c + 1 + i = c + (i + 1) by omega]) (fun j hj => hD j (by omega))
      (fun j z hij hj hz => hc (j + 1) z (by omega) (by simpa using hj) (by rwa [show c + (j + 1) = c + 1 + j by omega]))
end

/-- A slot. -/
def obsS (t : Nat) (st : St) : Option PV := st.s[t]?
def fS' (t : Nat) (x : Oper × Eff) (a : Option PV) : Option PV := if x.1.dst = some t then a.map (fun _ => x.2.v) else a
theorem obsS_ap (t : Nat) (st : St) (x : Oper × Eff) : obsS t (ap st x.1.dst x.2) = fS' t x (obsS t st) := by
  unfold obsS fS' ap putS
  cases hd : x.1.dst with
  | none => simp
  | some d =>
    simp only [List.getElem?_set, Option.some.injEq]
    by_cases h : d = t
    · subst h
      simp only [if_true]
      cases hs : st.s[d]? with
      | none => rw [if_neg (by have := List.getElem?_eq_none_iff.1 hs; omega)]; rfl
      | some y => rw [if_pos (List.getElem?_eq_some_iff.1 hs).1]; rfl
    · rw [if_neg h, if_neg h]

/-- An object. -/
def upF (u : Upd) (a : Option (Cont × Bool)) : Option (Cont × Bool) := match u with
  | .new c fz => some (c, fz)
  | .cont c => a.map fun o => (c, o.2)
  | .freeze => a.map fun o => (o.1, true)
def upsF (id : Nat) (us : List (Nat × Upd)) (a : Option (Cont × Bool)) : Option (Cont × Bool) := us.foldl (fun a u => if u.1 = id then upF u.2 a else a) a
theorem applyUpd_mget (m : Mem) (u : Nat × Upd) (id : Nat) : mget (applyUpd m u) id = if u.1 = id then upF u.2 (mget m id) else mget m id := by
  obtain ⟨k, u⟩ := u
  cases u with
  | new c fz => simp only [applyUpd, mget_cons, upF]
  | cont c =>
    simp only [applyUpd, upF]
    cases hk : mget m k with
    | none =>
      by_cases h : k = id
      · subst h; simp [hk]
      · simp [h]
    | some o =>
      simp only [mget_mset]
      by_cases h : k = id
      · subst h; simp [hk]
      · simp [h]
  | freeze =>
    simp only [applyUpd, upF]
    cases hk : mget m k with
    | none =>
      by_cases h : k = id
      · subst h; simp [hk]
      · simp [h]
    | some o =>
      simp only [mget_mset]
      by_cases h : k = id
      · subst h; simp [hk]
      · simp [h]
theorem applyAll_mget : ∀ (us : List (Nat × Upd)) (m : Mem) (id : Nat), mget (applyAll m us) id = upsF id us (mget m id)
  | [], _, _ => rfl
  | u :: us, m, id => by
    rw [applyAll_cons, applyAll_mget us, applyUpd_mget]
    rfl
def obsM (id : Nat) (st : St) : Option (Cont × Bool) := mget st.m id
def fM' (id : Nat) (x : Oper × Eff) (a : Option (Cont × Bool)) : Option (Cont × Bool) := upsF id x.2.upd a
theorem obsM_ap (id : Nat) (st : St) (x : Oper × Eff) : obsM id (ap st x.1.dst x.2) = fM' id x (obsM id st) := applyAll_mget _ _ _
theorem upsF_id {id : Nat} : ∀ {us : List (Nat × Upd)}, (∀ u ∈ us, u.1 ≠ id) → ∀ a, upsF id us a = a
  | [], _, _ => rfl
  | u :: us, h, a => by
    show upsF id us (if u.1 = id then upF u.2 a else a) = a
    rw [if_neg (h u (by simp))]
    exact upsF_id (fun v hv => h v (by simp [hv])) a
def frzO (a : Option (Cont × Bool)) : Option (Cont × Bool) := a.map fun o => (o.1, true)
theorem frzO_idem (a : Option (Cont × Bool)) : frzO (frzO a) = frzO a := by cases a <;> rfl
theorem upsF_frz {id : Nat} : ∀ {us : List (Nat × Upd)}, (∀ u ∈ us, u.1 = id → isFr u.2 = true) → (∀ a, upsF id us a = a) ∨ (∀ a, upsF id us a = frzO a)
  | [], _ => .inl fun _ => rfl
  | u :: us, h => by
    have ih := upsF_frz (us := us) (id := id) fun v hv => h v (by simp [hv])
    have hd : ∀ a, upsF id (u :: us) a = upsF id us (if u.1 = id then upF u.2 a else a) := fun _ => rfl
    by_cases hu : u.1 = id
    · have hf := h u (by simp) hu
      have hup : ∀ a, upF u.2 a = frzO a := by
        intro a
        cases hq : u.2 <;> rw [hq] at hf <;> first | rfl | cases hf
      right
      intro a
      rw [hd, if_pos hu, hup]
      rcases ih with ih | ih
      · exact ih _
      · rw [ih, frzO_idem]
    · rcases ih with ih | ih
      · left; intro a; rw [hd, if_neg hu]; exact ih a
      · right; intro a; rw [hd, if_neg hu]; exact ih a
/-- An object's content. -/
def obsC (id : Nat) (st : St) : Option Cont := (mget st.m id).map (·.1)
def upC (u : Upd) (a : Option Cont) : Option Cont := match u with
  | .new c _ => some c
  | .cont c => a.map fun _ => c
  | .freeze => a
def upsC (id : Nat) (us : List (Nat × Upd)) (a : Option Cont) : Option Cont := us.foldl (fun a u => if u.1 = id then upC u.2 a else a) a
def fC' (id : Nat) (x : Oper × Eff) (a : Option Cont) : Option Cont := upsC id x.2.upd a
theorem upsF_C {id : Nat} : ∀ (us : List (Nat × Upd)) (a : Option (Cont × Bool)), (upsF id us a).map (·.1) = upsC id us (a.map (·.1))
  | [], _ => rfl
  | u :: us, a => by
    show (upsF id us (if u.1 = id then upF u.2 a else a)).map (·.1) = upsC id us (if u.1 = id then upC u.2 (a.map (·.1)) else a.map (·.1))
    rw [upsF_C us]
    congr 1
    by_cases h : u.1 = id
    · rw [if_pos h, if_pos h]
      cases u.2 <;> cases a <;> rfl
    · rw [if_neg h, if_neg h]
theorem obsC_ap (id : Nat) (st : St) (x : Oper × Eff) : obsC id (ap st x.1.dst x.2) = fC' id x (obsC id st) := by
  show (mget (applyAll st.m x.2.upd) id).map (·.1) = _
  rw [applyAll_mget, upsF_C]
  rfl
theorem upsC_id {id : Nat} : ∀ {us : List (Nat × Upd)}, (∀ u ∈ us, u.1 = id → isFr u.2 = true) → ∀ a, upsC id us a = a
  | [], _, _ => rfl
  | u :: us, h, a => by
    show upsC id us (if u.1 = id then upC u.2 a else a) = a
    have : (if u.1 = id then upC u.2 a else a) = a := by
      by_cases hu : u.1 = id
      · rw [if_pos hu]
        have hf := h u (by simp) hu
        cases hq : u.2 <;> rw [hq] at hf <;> first | rfl | cases hf
      · rw [if_neg hu]
    rw [this]
    exact upsC_id (fun v hv => h v (by simp [hv])) a

/-! ### What is checked of a region, once -/
def dirs (o : Oper) : List Nat := (o.after.toList.filter (Region.binds .any)).map (·.on)
def presL : List (List Nat) → List Oper → List (List Nat)
  | acc, [] => acc
  | acc, o :: r => presL (acc ++ [dirs o ++ (dirs o).flatMap fun d => acc.getD d []]) r
def prOk (ops : Array Oper) (pr : List (List Nat)) : Bool := (List.range ops.size).all fun i => match ops[i]? with
  | some o => (dirs o).all (fun d => Nat.blt d i) && (pr.getD i []).all fun k => (dirs o).contains k || (dirs o).any fun d => (pr.getD d []).contains k
  | none => true
def pureK : Op → Bool
  | .move _ | .assign _ | .pick .. | .build .. | .nilCheck _ | .binOp .. | .unOp .. | .fieldAddr .. | .field .. | .index .. | .extract .. => true
  | _ => false
def readK : Op → Bool
  | .load .. | .convert .. | .slice .. | .indexAddr .. | .lookup .. => true
  | .call ⟨.builtin .len, _, _⟩ => true
  | op => pureK op
def pairOk (ops : Array Oper) (un : List (Nat × Nat)) (i j : Nat) : Bool := match ops[i]?, ops[j]? with
  | some o, some o' => o.apart ops o' && o'.apart ops o && (pureK o.op || pureK o'.op || (readK o.op && readK o'.op) || un.contains (i, j))
  | _, _ => true
def regOk (ops : Array Oper) (un : List (Nat × Nat)) : Bool :=
  let pr := presL [] ops.toList
  prOk ops pr && (List.range ops.size).all fun j => (List.range j).all fun i => (pr.getD j []).contains i || pairOk ops un i j
end Go.Pm

/- What operations of the lighter kinds leave alone. -/
namespace Go.Pm
open Go.RowKit

section
variable {P : Program} {T : FuncId → List PV → Option (PV × List PV)} {s : List PV} {m : Mem} {d : Option Tmp}

/-- Nothing is written, nothing is made. -/
def Still (e : Eff) : Prop := e.upd = [] ∧ e.fresh = 0
def Silent (e : Eff) : Prop := e.upd = [] ∧ e.fresh = 0 ∧ e.reads = []
theorem Silent.still {e : Eff} (h : Silent e) : Still e := ⟨h.1, h.2.1⟩
theorem withC_silent {c : Bool} {e : Option Eff} {r : Eff} (h : withC c e = some r) (k : ∀ e0, e = some e0 → Silent e0) : Silent r := by
  obtain ⟨e0, h0, _, _, h3, h4, h5⟩ := withC_some h
  obtain ⟨a, b, c⟩ := k e0 h0
  exact ⟨h3.trans a, h4.trans b, h5.trans c⟩
theorem withC_still {c : Bool} {e : Option Eff} {r : Eff} (h : withC c e = some r) (k : ∀ e0, e = some e0 → Still e0) : Still r := by
  obtain ⟨e0, h0, _, _, h3, h4, h5⟩ := withC_some h
  obtain ⟨a, b⟩ := k e0 h0
  exact ⟨h3.trans a, h4.trans b⟩
theorem map_silent {α : Type} {o : Option α} {f : α → Eff} {r : Eff} (h : o.map f = some r) (k : ∀ a, Silent (f a)) : Silent r := by
  obtain ⟨a, _, rfl⟩ := Option.map_eq_some_iff.1 h
  exact k a
theorem map_still {α : Type} {o : Option α} {f : α → Eff} {r : Eff} (h : o.map f = some r) (k : ∀ a, Still (f a)) : Still r := by
  obtain ⟨a, _, rfl⟩ := Option.map_eq_some_iff.1 h
  exact k a
theorem silent_mk {c : Bool} {v : PV} {r : Eff} (h : some ({ chk := c, v := v } : Eff) = some r) : Silent r := by injection h with h; subst h; exact ⟨rfl, rfl, rfl⟩
theorem still_mk {c : Bool} {v : PV} {l : List (Nat × Bool)} {r : Eff} (h : some ({ chk := c, v := v, reads := l } : Eff) = some r) : Still r := by injection h with h; subst h; exact ⟨rfl, rfl⟩

theorem pickE_silent {c a b : PV} {ga gb : Bool} {e : Eff} (h : pickE c a b ga gb = some e) : Silent e := by
  unfold pickE at h
  split at h
  · exact silent_mk h
  · exact silent_mk h
  · exact silent_mk h
  · cases h
theorem buildE_silent {t : TypeId} {xs : List (Nat × PV)} {e : Eff} (h : buildE P t xs = some e) : Silent e := by
  unfold buildE at h
  split at h
  · exact map_silent (bif_some h).2 fun _ => ⟨rfl, rfl, rfl⟩
  · cases h
theorem nilE_silent {x : PV} {e : Eff} (h : nilE x = some e) : Silent e := by
  unfold nilE at h
  split at h <;> first | exact silent_mk h | cases h
theorem binE_silent {op : BinOp} {t : TypeId} {x y : PV} {e : Eff} (h : binE P op t x y = some e) : Silent e := by
  unfold binE at h
  split at h
  · split at h
    · exact silent_mk h
    · exact map_silent (bif_some h).2 fun _ => ⟨rfl, rfl, rfl⟩
  · exact map_silent h fun _ => ⟨rfl, rfl, rfl⟩
  · split at h
    · split at h <;> first | exact silent_mk h | cases h
    · cases hg : eqGT P P.depth t with
      | true => rw [hg] at h; cases h
      | false =>
        rw [hg, cond_false] at h
        split at h <;> first | exact map_silent h fun _ => ⟨rfl, rfl, rfl⟩ | cases h
theorem fieldE_silent {t : TypeId} {x : PV} {f : Nat} {e : Eff} (h : fieldE P t x f = some e) : Silent e := by
  unfold fieldE at h
  split at h
  · cases h
  · rename_i off ft _
    cases hz : (sizeT P ft == 0) with
    | true => rw [hz] at h; cases h
    | false =>
      rw [hz, cond_false] at h
      split at h <;> first | exact silent_mk h | cases h
theorem fieldVE_silent {t : TypeId} {x : PV} {f : Nat} {e : Eff} (h : fieldVE P t x f = some e) : Silent e := by
  unfold fieldVE at h
  split at h
  · exact map_silent h fun _ => ⟨rfl, rfl, rfl⟩
  · cases h
theorem extractE_silent {x : PV} {i : Nat} {e : Eff} (h : extractE x i = some e) : Silent e := by
  unfold extractE at h
  split at h
  · exact map_silent h fun _ => ⟨rfl, rfl, rfl⟩
  · cases h
theorem idxE_silent {t : TypeId} {x y : PV} {e : Eff} (h : idxE P t x y = some e) : Silent e := by
  unfold idxE at h
  split at h
  · exact map_silent (bif_some h).2 fun _ => ⟨rfl, rfl, rfl⟩
  · exact map_silent h fun _ => ⟨rfl, rfl, rfl⟩
  · cases h
theorem loadE_still {t : TypeId} {x : PV} {e : Eff} (h : loadE P m t x = some e) : Still e := by
  unfold loadE at h
  split at h
  · split at h
    · exact map_still h fun _ => ⟨rfl, rfl⟩
    · cases h
  · split at h
    · exact map_still (bif_some h).2 fun _ => ⟨rfl, rfl⟩
    · cases h
  · exact map_still h fun _ => ⟨rfl, rfl⟩
  · cases h
theorem convE_still {src dst : TypeId} {x : PV} {e : Eff} (h : convE P m src dst x = some e) : Still e := by
  unfold convE at h
  split at h
  · exact still_mk h
  · exact still_mk h
  · split at h
    · exact still_mk h
    · split at h
      · exact still_mk (bif_some h).2
      · cases h
    · cases h
  · cases h
theorem indexE_still {t : TypeId} {x y : PV} {e : Eff} (h : indexE P m t x y = some e) : Still e := by
  unfold indexE at h
  split at h
  · split at h
    · split at h
      · split at h
        · exact still_mk (bif_some h).2
        · cases h
      · split at h
        · exact still_mk (bif_some h).2
        · cases h
      · exact still_mk (bif_some h).2
      · cases h
    · rename_i n et hu
      split at h
      · cases hz : (sizeT P et == 0) with
        | true => rw [hz] at h; cases h
        | false => rw [hz, cond_false] at h; exact still_mk h
      · cases hz : (sizeT P et == 0) with
        | true => rw [hz] at h; cases h
        | false => rw [hz, cond_false] at h; exact still_mk h
      · cases h
    · cases h
  · cases h
theorem sliceE_still {t : TypeId} {x : PV} {lo hi mx : Option PV} {e : Eff} (h : sliceE P m t x lo hi mx = some e) : Still e := by
  unfold sliceE at h
  split at h
  · split at h
    · exact map_still (bif_some h).2 fun _ => ⟨rfl, rfl⟩
    · split at h
      · exact map_still (bif_some h).2 fun _ => ⟨rfl, rfl⟩
      · cases h
    · exact map_still (bif_some h).2 fun _ => ⟨rfl, rfl⟩
    · exact map_still h fun _ => ⟨rfl, rfl⟩
    · cases h
  · split at h
    · obtain ⟨⟨c, l, hh⟩, _, h⟩ := Option.bind_eq_some_iff.1 (bif_some h).2
      exact still_mk (bif_some h).2
    · replace h := (bif_some h).2
      split at h
      · replace h := (bif_some h).2
        obtain ⟨zs, _, h⟩ := Option.bind_eq_some_iff.1 h
        exact map_still h fun _ => ⟨rfl, rfl⟩
      · cases h
    · cases h
  · cases h
theorem lenE_still {t : TypeId} {x : PV} {e : Eff} (h : lenE P m t x = some e) : Still e := by
  unfold lenE at h
  split at h
  · split at h
    · exact still_mk h
    · exact still_mk h
    · split at h
      · exact still_mk h
      · exact map_still h fun _ => ⟨rfl, rfl⟩
    · exact map_still h fun _ => ⟨rfl, rfl⟩
  · split at h
    · exact still_mk h
    · cases h
  · exact still_mk h
  · cases h

theorem pureK_spec {op : Op} {e : Eff} (hk : pureK op = true) (h : opE P T s m d op = some e) : Silent e := by
  cases op with
  | move x => exact silent_mk h
  | assign x => exact silent_mk h
  | pick c x y => exact withC_silent h fun _ h => pickE_silent h
  | build t parts => exact withC_silent h fun _ h => buildE_silent h
  | nilCheck x => exact withC_silent h fun _ h => nilE_silent h
  | binOp op t x y yt => exact withC_silent h fun _ h => binE_silent h
  | unOp op t x => exact withC_silent h fun _ h => map_silent h fun _ => ⟨rfl, rfl, rfl⟩
  | fieldAddr t x f => exact withC_silent h fun _ h => fieldE_silent h
  | field t x f => exact withC_silent (bif_some h).2 fun _ h => fieldVE_silent h
  | index t x ix => exact withC_silent h fun _ h => idxE_silent h
  | extract x i => exact withC_silent h fun _ h => extractE_silent h
  | _ => cases hk
theorem readK_spec {op : Op} {e : Eff} (hk : readK op = true) (h : opE P T s m d op = some e) : Still e := by
  unfold readK at hk
  split at hk
  · exact withC_still (bif_some h).2 fun _ h => loadE_still h
  · exact withC_still h fun _ h => convE_still h
  · exact withC_still (bif_some h).2 fun _ h => sliceE_still h
  · exact withC_still (bif_some h).2 fun _ h => indexE_still h
  · refine withC_still h fun _ h => ?_
    unfold lookupE at h
    split at h
    · split at h
      · replace h := (bif_some h).2
        split at h
        · exact still_mk h
        · cases h
      · cases h
    · cases h
  · simp only [opE, callOp] at h
    split at h
    · exact withC_still h fun _ h => lenE_still h
    · cases h
  · exact (pureK_spec hk h).still

theorem operE_from {ops : Array Oper} {st : St} {o : Oper} {e : Eff} (h : operE P T ops st o = some e) : (∃ e0, opE P T st.s st.m o.dst o.op = some e0 ∧ e.upd = e0.upd ∧ e.fresh = e0.fresh ∧ e.reads = e0.reads) ∨ Silent e := by
  unfold operE at h
  split at h
  · exact .inl ⟨e, h, rfl, rfl, rfl⟩
  · split at h
    · cases h
    · split at h
      · cases h
      · rename_i c _
        cases hco : isCallOp o.op with
        | true =>
          rw [hco, cond_true] at h
          cases c with
          | true =>
            rw [cond_true] at h
            split at h
            · cases h
            · rename_i e0 h0
              injection h with h
              subst h
              exact .inl ⟨e0, h0, rfl, rfl, rfl⟩
          | false =>
            rw [cond_false] at h
            injection h with h
            subst h
            exact .inr ⟨rfl, rfl, rfl⟩
        | false =>
        rw [hco, cond_false] at h
        cases hd : hasDead st.s o.op with
        | true =>
          rw [hd, cond_true] at h
          injection h with h
          subst h
          exact .inr ⟨rfl, rfl, rfl⟩
        | false =>
        rw [hd, cond_false] at h
        split at h
        · cases h
        · rename_i e0 h0
          obtain ⟨_, h⟩ := bif_some h
          injection h with h
          subst h
          exact .inl ⟨e0, h0, rfl, rfl, rfl⟩
theorem operE_pure {ops : Array Oper} {st : St} {o : Oper} {e : Eff} (h : operE P T ops st o = some e) (hk : pureK o.op = true) : Silent e := by
  rcases operE_from h with ⟨e0, h0, a1, a2, a3⟩ | h
  · obtain ⟨c1, c2, c3⟩ := pureK_spec hk h0
    exact ⟨a1.trans c1, a2.trans c2, a3.trans c3⟩
  · exact h
theorem operE_read {ops : Array Oper} {st : St} {o : Oper} {e : Eff} (h : operE P T ops st o = some e) (hk : readK o.op = true) : Still e := by
  rcases operE_from h with ⟨e0, h0, a1, a2, a3⟩ | h
  · obtain ⟨c1, c2⟩ := readK_spec hk h0
    exact ⟨a1.trans c1, a2.trans c2⟩
  · exact h.still

/-- Two operations of a region whose order is open do not get into each other's way. -/
theorem noconf_of {ops : Array Oper} {st st' : St} {o o' : Oper} {e e' : Eff} (h : operE P T ops st o = some e) (h' : operE P T ops st' o' = some e') (hk : pureK o.op = true ∨ pureK o'.op = true ∨ (readK o.op = true ∧ readK o'.op = true)) (d d' : Option Tmp) : noconf d d' e e' = true := by
  have newfree0 : ∀ (us : List (Nat × Upd)) (n : Nat), newfree us n 0 = true := by
    intro us n
    simp only [newfree, List.all_eq_true]
    intro u _
    cases h1 : Nat.ble n u.1 <;> cases h2 : Nat.blt u.1 (n + 0) <;> simp
    have := Nat.le_of_ble_eq_true h1
    rw [Nat.blt_eq] at h2
    omega
  have rfree0 : ∀ us : List (Nat × Upd), rfree us [] = true := by intro us; simp [rfree]
  have ufree0 : ∀ us : List (Nat × Upd), ufree us [] = true := by intro us; simp [ufree]
  unfold noconf
  rcases hk with hk | hk | ⟨hk, hk'⟩
  · obtain ⟨c1, c2, c3⟩ := operE_pure h hk
    rw [c1, c2, c3, rfree0, newfree0]
    rfl
  · obtain ⟨c1, c2, c3⟩ := operE_pure h' hk
    rw [c1, c2, c3, rfree0, newfree0, ufree0]
    rfl
  · obtain ⟨c1, c2⟩ := operE_read h hk
    obtain ⟨d1, d2⟩ := operE_read h' hk'
    rw [c1, c2, d1, d2]
    rfl
end
end Go.Pm
