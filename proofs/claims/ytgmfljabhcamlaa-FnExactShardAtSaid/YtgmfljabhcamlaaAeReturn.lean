/- The end of a call: its results, what it leaves. -/
import Derived.Test.YtgmfljabhcamlaaAeExec
namespace Go.Ae
open Go.RowKit
set_option linter.unusedVariables false
set_option linter.unusedSimpArgs false
section
variable {P : Program} {w w' w0 : World} {M : Nat → Nat → Path → Option Nat} {R : Nat → Prop} {S : St} {g : G} {a : Act} {S0 : St} {g0 : G}

theorem loadVar_own {t : TypeId} {cv0 : Value} {inf : TypeInfo} {ag : Bool} {lv s ver : Nat} {p : Path} {i c : Nat} {b : Blk} {ys : List (List AV)} {row : List AV} {v : AV} (hW : WRel w0 M R S g w)
    (hi : P.info? t = some inf) (hag : aggT P t = some ag) (h1 : ag = true ∨ inf.size = 1) (hv : VRel S g (stab w0 R) (.ptr lv s ver p i c) cv0) (hat : S.at lv s ver p = some (b, ys)) (hrow : ys[i]? = some row)
    (hl : c + inf.size ≤ row.length) (hof : AV.ofCells ag (outCells lv s ver p i c ((row.drop c).take inf.size)) = some v) : ∃ ad cv, cv0 = .pointer (some ad) ∧ (loadVar t ad).run P w = .ok cv w ∧ VRel S g (stab w0 R) v cv := by
  obtain ⟨B, arr, ty, fz, he, hB, a1, a2, a3, a4, a5, a6, a7⟩ := own_cells hW hat hrow hl (hv.ptr_inv.2 b ys hat)
  let us : Array Value := arr.extract (i * csz b.sz p ys + c) (i * csz b.sz p ys + c + inf.size)
  have hsz : us.size = inf.size := by simp [us]; omega
  have hget : ∀ j, j < inf.size → us.getD j undef = arr.getD (i * csz b.sz p ys + (c + j)) undef := by
    intro j hj
    have e1 : i * csz b.sz p ys + (c + j) = i * csz b.sz p ys + c + j := by omega
    have : i * csz b.sz p ys + c + j < arr.size := by omega
    simp [us, e1, hsz, hj, this, Array.getElem_extract]
  have hvals : VRel S g (stab w0 R) v (if ag then .agg us else us.getD 0 undef) := by
    refine ofCells_rel hof (by rw [outCells_length, hsz]; simp; omega) fun j u hu => ?_
    have hj : j < inf.size := by
      have := (List.getElem?_eq_some_iff.1 hu).1
      rw [outCells_length] at this; simp at this; omega
    have hrj : row[c + j]? = some (row[c + j]'(by omega)) := List.getElem?_eq_getElem _
    obtain ⟨u', hu', hk⟩ := a7 j _ hj hrj
    have hout := outCells_get (lv := lv) (s := s) (ver := ver) (p := p) (i := i) c ((row.drop c).take inf.size) j _ (by simp [List.getElem?_take, hj]; exact hrj)
    rw [hout] at hu
    rw [hget j hj, getD_of hu']
    have := krel_out hW hat (by rw [cellAt_row hrow]; exact hrj) hk
    have hu2 := Option.some.inj hu
    rw [← hu2]
    exact this
  refine ⟨_, if ag then .agg us else us.getD 0 undef, he, ?_, hvals⟩
  refine run_loadVar hi hag h1 hsz fun j hj => ?_
  rw [hsz] at hj
  rw [Addr.add_lit, blk_cell' a1, hget j hj]
  have : i * csz b.sz p ys + c + j < arr.size := by omega
  have e1 : i * csz b.sz p ys + (c + j) = i * csz b.sz p ys + c + j := by omega
  simp [e1, this]

def resVal (tmps : Array Value) : ResultVar → Sem Value
  | .tmp t => pure (tmps.getD t undef)
  | .cell a t => do loadVar t (← asAddr (tmps.getD a undef))

theorem tmp_rel {cell : Addr → Option Value} (hT : TRel S g cell a) (t : Nat) : VRel S g cell (S.tmps.getD t .undef) (a.tmps.getD t undef) := by
  rw [List.getD_eq_getElem?_getD]
  cases h : S.tmps[t]? with
  | none => exact .undef _
  | some v => exact hT.val t v h

theorem resVals_ok (h : Rel w0 M R S0 g0 S g a w) : ∀ (l : List ResultVar) (rs : List RV) (vs : List AV), cR P l = some rs → evalRVs S rs = some vs → ∃ cvs : List Value, (l.mapM (resVal a.tmps)).run P w = .ok cvs w ∧ cvs.length = vs.length ∧ ∀ (i : Nat) (v : AV), vs[i]? = some v → ∃ cv, cvs[i]? = some cv ∧ VRel S g (stab w0 R) v cv
  | [], rs, vs, hc, he => by
    simp only [cR, Option.some.injEq] at hc; subst hc
    simp only [evalRVs, Option.some.injEq] at he; subst he
    exact ⟨[], by simp, rfl, fun i v h => by simp at h⟩
  | r :: l, rs, vs, hc, he => by
    simp only [cR] at hc
    split at hc
    · rename_i x xs hx hxs
      cases hc
      simp only [evalRVs] at he
      split at he
      · rename_i v vs' hv hvs
        cases he
        obtain ⟨cvs, k1, k2, k3⟩ := resVals_ok h l xs vs' hxs hvs
        have one : ∃ cv, (resVal a.tmps r).run P w = .ok cv w ∧ VRel S g (stab w0 R) v cv := by
          cases r with
          | tmp t =>
            cases hx
            simp only [evalRV, Option.some.injEq] at hv
            subst hv
            exact ⟨_, by simp [resVal], tmp_rel h.trel t⟩
          | cell p t =>
            simp only at hx
            split at hx
            · rename_i inf ag hi hag
              split at hx
              · rename_i hcd
                cases hx
                have ht := tmp_rel h.trel p
                simp only [evalRV] at hv
                split at hv
                · rename_i lv s ver q i c hq
                  rw [hq] at ht
                  split at hv
                  · rename_i b ys hat
                    split at hv
                    · rename_i row hrow
                      split at hv
                      · rename_i hl
                        obtain ⟨ad, cv, e1, e2, e3⟩ := loadVar_own (P := P) h.wrel hi hag hcd.2 ht hat hrow hl hv
                        refine ⟨cv, ?_, e3⟩
                        simp [resVal, e1, asAddr, e2]
                      · cases hv
                    · cases hv
                  · cases hv
                · cases hv
              · cases hx
            · cases hx
        obtain ⟨cv, e1, e2⟩ := one
        refine ⟨cv :: cvs, by simp [List.mapM_cons, e1, k1], by simp [k2], fun i u hu => ?_⟩
        cases i with
        | zero => simp at hu; subst hu; exact ⟨cv, rfl, e2⟩
        | succ i => simpa using k3 i u (by simpa using hu)
      · cases he
    · cases hc

def valOf : List AV → AV
  | [v] => v
  | vs => .tup vs
theorem results_ok {fn : Func} {rs : List RV} {vs : List AV} (h : Rel w0 M R S0 g0 S g a w) (hc : cR P fn.results.toList = some rs) (he : evalRVs S rs = some vs) : ∃ cv, (results fn a.tmps).run P w = .ok cv w ∧ VRel S g (stab w0 R) (valOf vs) cv := by
  obtain ⟨cvs, k1, k2, k3⟩ := resVals_ok (P := P) h _ _ _ hc he
  have hrun : (results fn a.tmps).run P w = .ok (if h : cvs.toArray.size = 1 then cvs.toArray[0] else .tuple cvs.toArray) w := by
    have hm : fn.results.mapM (resVal a.tmps) = List.toArray <$> fn.results.toList.mapM (resVal a.tmps) := Array.mapM_eq_mapM_toList
    show (fn.results.mapM (resVal a.tmps) >>= fun vs => pure (if h : vs.size = 1 then vs[0] else .tuple vs)).run P w = _
    rw [hm]
    simp [k1]
  refine ⟨_, hrun, ?_⟩
  by_cases h1 : cvs.length = 1
  · obtain ⟨cv, rfl⟩ := List.length_eq_one_iff.1 h1
    obtain ⟨v, rfl⟩ := List.length_eq_one_iff.1 (k2.symm.trans h1)
    obtain ⟨cv', e1, e2⟩ := k3 0 v rfl
    simp at e1; subst e1
    simpa [valOf] using e2
  · have hne : ∀ v, vs ≠ [v] := fun v hv => h1 (by rw [k2, hv]; rfl)
    rw [dif_neg (by simpa using h1)]
    have : valOf vs = AV.tup vs := by
      unfold valOf
      split
      · exact absurd rfl (hne _)
      · rfl
    rw [this]
    refine .tup vs _ (by simp [k2]) fun i v hv => ?_
    obtain ⟨cv, e1, e2⟩ := k3 i v hv
    rwa [show cvs.toArray.getD i undef = cv by simp [e1]]

theorem outBlks_get {sites : List Nat} : ∀ {l : List Nat} {bs : List Blk}, outBlks S sites l = some bs → bs.length = l.length ∧ ∀ (i s : Nat), l[i]? = some s → ∃ b, S.blk 0 s = some b ∧ bs[i]? = some { Blk.mapR (outR S sites) b with ver := 0 }
  | [], bs, h => by simp [outBlks] at h; subst h; exact ⟨rfl, fun i s h => by simp at h⟩
  | s :: r, bs, h => by
    simp only [outBlks] at h
    split at h
    · rename_i b bs' h1 h2
      cases h
      obtain ⟨e1, e2⟩ := outBlks_get h2
      refine ⟨by simp [e1], fun i t ht => ?_⟩
      cases i with
      | zero => simp at ht; subst ht; exact ⟨b, h1, rfl⟩
      | succ i => simpa using e2 i t (by simpa using ht)
    · cases h

def gOut (g : G) (sites : List Nat) : G := ⟨fun lv s p => match lv with | 0 => (match sites[s]? with | some t => g.θ 0 t p | none => none) | n + 1 => g.θ (n + 1) s p, g.κ⟩

theorem out_blk {sites : List Nat} {bs : List Blk} {E : List Heap} {v : AV} (hb : outBlks S sites sites = some bs) {i : Nat} {b' : Blk} (h : (resSt ⟨v, bs, E⟩).blk 0 i = some b') : ∃ s b, sites[i]? = some s ∧ S.blk 0 s = some b ∧ b' = { Blk.mapR (outR S sites) b with ver := 0 } := by
  obtain ⟨e1, e2⟩ := outBlks_get hb
  rw [res_blk] at h
  have hi := (List.getElem?_eq_some_iff.1 h).1
  simp only at hi
  have hs : sites[i]? = some (sites[i]'(by omega)) := List.getElem?_eq_getElem _
  obtain ⟨b, h1, h2⟩ := e2 i _ hs
  refine ⟨_, b, hs, h1, ?_⟩
  have h' : bs[i]? = some b' := h
  rw [h2] at h'; exact (Option.some.inj h').symm

theorem ren_out (hW : WRel w0 M R S g w) {sites : List Nat} {bs : List Blk} {v : AV} (hb : outBlks S sites sites = some bs) : RenOk (outR S sites) S g (resSt ⟨v, bs, S.ext⟩) (gOut g sites) := by
  intro lv s v' p lv' s' v'' hf hk
  cases lv with
  | succ n =>
    simp only [outR, Option.some.injEq, Prod.mk.injEq] at hf
    obtain ⟨rfl, rfl, rfl⟩ := hf
    obtain ⟨ob, h1, h2⟩ := hk
    exact ⟨⟨ob, h1, h2⟩, fun b' ys' hat => ⟨b', ys', hat, Nat.le_refl _, rfl, rfl, rfl, fun _ _ => rfl⟩⟩
  | zero =>
    simp only [outR] at hf
    split at hf
    · rename_i b hblk
      split at hf
      · rename_i hc
        obtain ⟨hv, hin⟩ := hc
        cases hf
        have hmem : s ∈ sites := by simpa using hin
        have hlt : sites.idxOf s < sites.length := List.idxOf_lt_length_of_mem hmem
        have hsi : sites[sites.idxOf s]? = some s := by rw [List.getElem?_eq_getElem hlt]; exact congrArg some (List.getElem_idxOf hlt)
        obtain ⟨e1, e2⟩ := outBlks_get hb
        obtain ⟨b2, k1, k2⟩ := e2 _ _ hsi
        rw [hblk] at k1; cases k1
        have hget : (resSt ⟨v, bs, S.ext⟩).blk 0 (sites.idxOf s) = some { Blk.mapR (outR S sites) b with ver := 0 } := by rw [res_blk]; exact k2
        refine ⟨⟨_, blk_get hget, fun b' h => by cases h; exact Nat.le_refl _⟩, fun b' ys' hat => ?_⟩
        obtain ⟨h1, h2, h3⟩ := at_blk hat
        rw [hget] at h1
        cases h1
        obtain ⟨e1, e2, e3, e4⟩ := mapR_ver (f := outR S sites) b
        have hθ : (gOut g sites).θ 0 (sites.idxOf s) p = g.θ 0 s p := by simp only [gOut, hsi]
        by_cases hbox : b.box = true
        · have hown := fun i c fl zs => box_own (hW.cont 0 s b [] b.elems hblk rfl) hbox (i := i) (c := c) (fl := fl) (zs := zs)
          obtain ⟨rfl, rfl⟩ := box_nav (mapR_own (f := outR S sites) hbox hown) h3
          exact ⟨b, b.elems, at_mk hblk hv rfl, by rw [mapR_len]; exact Nat.le_refl _, e2, e2, hθ, fun _ _ => rfl⟩
        · have hbox' : b.box = false := by simpa using hbox
          have h3' : navE b.elems p = some ys' := by rw [show ({ Blk.mapR (outR S sites) b with ver := 0 } : Blk).elems = b.elems by simp [mapR_arr hbox']] at h3; exact h3
          exact ⟨b, ys', at_mk hblk hv h3', Nat.le_refl _, e2, by show csz (b.mapR (outR S sites)).sz p ys' = _; rw [e2], hθ, fun _ _ => rfl⟩
      · cases hf
    · cases hf

theorem finish_ok (hW : WRel w0 M R S g w) (hE : Ext S0 g0 S g) (h0 : S0.loc = []) {v : AV} {cv : Value} {r : Res} (hv : VRel S g (stab w0 R) v cv) (hf : finish S v = some r) :
    ∃ g', WRel w0 M R (resSt r) g' w ∧ Ext S0 g0 (resSt r) g' ∧ VRel (resSt r) g' (stab w0 R) r.val cv := by
  unfold finish at hf
  split at hf
  · rename_i hnd
    generalize (reach S 8 v).eraseDups = sites at hf hnd
    split at hf
    · rename_i bs hb
      cases hf
      have hr := ren_out hW (v := v.mapR (outR S sites)) hb
      have hθ : ∀ lv s p B, (gOut g sites).θ lv s p = some B → ∃ t, g.θ lv t p = some B ∧ (lv = 0 → sites[s]? = some t) ∧ (lv ≠ 0 → s = t) := fun lv s p B h => by
        cases lv with
        | zero =>
          simp only [gOut] at h
          split at h
          · rename_i t ht; exact ⟨t, h, fun _ => ht, fun h => absurd rfl h⟩
          · cases h
        | succ n => exact ⟨s, h, (fun h => by cases h), fun _ => rfl⟩
      refine ⟨gOut g sites, ?_, ?_, hv.ren hr⟩
      · refine { os := hW.os, tape := hW.tape, output := hW.output, size := hW.size, keep := hW.keep, rng := fun lv s p B h => ?_, fresh := fun s p B h => ?_,
                 ext := fun lv s p B h => hW.ext _ _ _ _ h, inj := fun lv s p lv' s' p' B h h' => ?_, cont := fun lv s b' p ys hb' hn => ?_ }
        · obtain ⟨t, h1, _⟩ := hθ _ _ _ _ h; exact hW.rng _ _ _ _ h1
        · obtain ⟨t, h1, _⟩ := hθ _ _ _ _ h; exact hW.fresh _ _ _ h1
        · obtain ⟨t, h1, h2, h3⟩ := hθ _ _ _ _ h
          obtain ⟨t', h1', h2', h3'⟩ := hθ _ _ _ _ h'
          obtain ⟨e1, e2, e3⟩ := hW.inj _ _ _ _ _ _ _ h1 h1'
          subst e1; subst e2; subst e3
          refine ⟨rfl, ?_, rfl⟩
          by_cases hl : lv = 0
          · have q1 := h2 hl; have q2 := h2' hl
            have l1 := (List.getElem?_eq_some_iff.1 q1).1
            exact (List.getElem?_inj l1 hnd).1 (q1.trans q2.symm)
          · rw [h3 hl, h3' hl]
        · cases lv with
          | zero =>
            obtain ⟨t, b, k1, k2, k3⟩ := out_blk hb hb'
            refine Cont.ren (b := b) (cell := stab w0 R) hr (fun v cv h _ => h) (fun p ys hn => hW.cont 0 t b p ys k2 hn) (fun q => by simp only [gOut, k1]) (fun _ _ _ => rfl) (b' := b') (by rw [k3]) hn
          | succ n =>
            exact (hW.cont (n + 1) s b' p ys hb' hn).level hr (by funext lv s v p; simp only [RefMap.comp, upR, outR, Nat.add_eq]; rfl) (fun _ => rfl) (fun _ _ _ => rfl)
      · intro lv s ob hob
        cases lv with
        | zero => rw [show S0.heap 0 = S0.loc from rfl, h0] at hob; simp [Heap.get] at hob
        | succ n =>
          obtain ⟨ob', k1, k2⟩ := hE (n + 1) s ob hob
          exact ⟨ob', k1, k2⟩
    · cases hf
  · cases hf
end
end Go.Ae
