/- New variables, literals, new slices; lengths; parts of slices. -/
import Derived.Test.YtlphdiccffnckaaOpq
namespace Go.Abs

section
variable {P : Program} {T : TT} (hT : TOk P T) {X : Cx} {L : List Nat}

/-- A new box. -/
theorem box_new (hX : X.Ok) {cs : List AV} {arr : Array Value} {e : TypeId} {w' : World} (hg : Grown X.w w' (.cells arr e (0, 0))) (hl : arr.size = cs.length)
    (h1 : ∀ (j : Nat) v, arr[j]? = some v → v.oneCell' = true) (hr : ∀ (j : Nat) c v, cs[j]? = some c → arr[j]? = some v → VRel X [] c v) :
    Step X L (.bp X.H.length 0) (X.H ++ [.box cs]) (.pointer (some ⟨X.w.heap.size, 0, none⟩)) w' := by
  have hs : Later X.w w' := hg.later
  have hk : ∀ b, b < X.w.heap.size → w'.heap[b]? = X.w.heap[b]? := fun b hb => hg.old hb
  have hb1 : ∀ b, (EC.box X.w.heap.size).blk = some b → X.w.heap.size ≤ b := fun b hb => by simp [EC.blk] at hb; omega
  have hb2 : ∀ b, (EC.box X.w.heap.size).blk = some b → b < w'.heap.size := fun b hb => by simp [EC.blk] at hb; rw [hg.size]; omega
  have t := Cx.push_trans (h' := .box cs) hX hs hk hb1
  refine ⟨X.push w' (.box cs) (.box X.w.heap.size), rfl, rfl, Cx.push_ok hX hs hk hb1 hb2 (fun t => ⟨.inr rfl, arr, e, hg.new, hl, h1, fun j c v hc hv => (hr j c v hc hv).trans t hX⟩), t, .bp rfl (by simp [Cx.push, hX.len]) fun b hb => ?_⟩
  have h1 : (X.E ++ [EC.box X.w.heap.size])[X.H.length]? = some (EC.box X.w.heap.size) := by rw [← hX.len]; simp
  simp only [Cx.push] at hb
  rw [h1] at hb
  injection hb with hb
  injection hb with hb
  subst hb
  rfl

theorem sc_cells {zs : List Value} {arr : Array Value} (h : arr.toList = zs) : ∀ (j : Nat) c v, (zs.map AV.sc)[j]? = some c → arr[j]? = some v → VRel X L c v := by
  intro j c v hc hv
  rw [List.getElem?_map] at hc
  obtain ⟨u, hu, rfl⟩ := Option.map_eq_some_iff.1 hc
  rw [← h] at hu
  simp only [Array.getElem?_toList] at hu
  rw [hv] at hu
  cases hu
  exact .frz (.sc _)

include hT in
theorem alloc_run (hX : X.Ok) {t : Nat} {zs : List Value} (h : T.zero t = some zs) : ∃ w', (Instr.alloc t true (.tuple #[])).run P X.w = .ok (.pointer (some ⟨X.w.heap.size, 0, none⟩)) w' ∧
    Step X L (.bp X.H.length 0) (X.H ++ [.box (zs.map .sc)]) (.pointer (some ⟨X.w.heap.size, 0, none⟩)) w' := by
  obtain ⟨i, v, h1, h2, h3, h4⟩ := hT.zero t zs h
  refine ⟨X.w.alloc (.cells v.cells t), ?_, box_new hX (grown_alloc _ _) (by simp [← h3]) (fun j u hu => h4 u ?_) (sc_cells h3)⟩
  · simp [Instr.alloc, zeroValue, typeInfo, h1, h2, newVar, newRow]
  · rw [← h3]
    exact List.mem_of_getElem? (i := j) (by simpa using hu)

theorem box_run (hX : X.Ok) {t n : Nat} {g : Bool} (_h : T.size t = some (n, g)) {a : AV} {v : Value} (hv : VRel X L a v) (hs : a.storable = true) (hst : a.still = true) :
    ∃ w', (Instr.box t v).run P X.w = .ok (.pointer (some ⟨X.w.heap.size, 0, none⟩)) w' ∧ Step X L (.bp X.H.length 0) (X.H ++ [.box a.cells]) (.pointer (some ⟨X.w.heap.size, 0, none⟩)) w' := by
  obtain ⟨h1, h2, h3⟩ := hv.cells hs
  refine ⟨X.w.alloc (.cells v.cells t), by simp [Instr.box, newVar, newRow], box_new hX (grown_alloc _ _) h1 h2 (fun j c u hc hu => (h3 j c u hc hu).calm (cells_still hst hc))⟩

theorem zip_fold (off : Nat) : ∀ (l : List Value) (k : Nat) (cs : Array Value), off + k + l.length ≤ cs.size →
    ((l.zipIdx k).foldl (fun (cs : Array Value) (p : Value × Nat) => cs.setIfInBounds (off + p.2) p.1) cs).size = cs.size ∧
    ∀ m : Nat, ((l.zipIdx k).foldl (fun (cs : Array Value) (p : Value × Nat) => cs.setIfInBounds (off + p.2) p.1) cs)[m]? = if off + k ≤ m ∧ m < off + k + l.length then l[m - (off + k)]? else cs[m]?
  | [], k, cs, _ => ⟨rfl, fun m => by simp; omega⟩
  | v :: l, k, cs, h => by
    simp only [List.length_cons] at h
    obtain ⟨h1, h2⟩ := zip_fold off l (k + 1) (cs.setIfInBounds (off + k) v) (by simp; omega)
    simp only [List.zipIdx_cons, List.foldl_cons]
    refine ⟨by rw [h1]; simp, fun m => ?_⟩
    rw [h2 m]
    by_cases hm : m = off + k
    · subst hm
      rw [if_neg (by omega), if_pos (by simp)]
      have : off + k < cs.size := by omega
      simp [this]
    · by_cases hin : off + k ≤ m ∧ m < off + k + (v :: l).length
      · rw [if_pos hin, if_pos (by simp at hin; omega)]
        rw [show m - (off + k) = (m - (off + (k + 1))) + 1 by omega]
        simp
      · rw [if_neg hin, if_neg (by simp at hin; omega)]
        rw [Array.getElem?_setIfInBounds_ne (by omega)]

/-- Parts put into their places. -/
theorem fill_run {place : Nat → Option (Nat × Nat)} : ∀ (parts : List (Nat × AV)) (vals : List (Nat × Value)) (cs cs' : List AV) (arr : Array Value), fillA place parts cs = some cs' →
    vals.length = parts.length → (∀ (j : Nat) p q, parts[j]? = some p → vals[j]? = some q → p.1 = q.1 ∧ VRel X L p.2 q.2) → arr.size = cs.length →
    (∀ (j : Nat) v, arr[j]? = some v → v.oneCell' = true) → (∀ (j : Nat) c v, cs[j]? = some c → arr[j]? = some v → VRel X L c v) →
    ∃ arr', Instr.fill place arr vals = some arr' ∧ arr'.size = cs'.length ∧ cs'.length = cs.length ∧ (∀ (j : Nat) v, arr'[j]? = some v → v.oneCell' = true) ∧ ∀ (j : Nat) c v, cs'[j]? = some c → arr'[j]? = some v → VRel X L c v
  | [], [], cs, cs', arr, h, _, _, hl, h1, hr => by
    simp only [fillA, Option.some.injEq] at h
    subst h
    exact ⟨arr, rfl, hl, rfl, h1, hr⟩
  | [], _ :: _, _, _, _, _, hl, _, _, _, _ => by simp at hl
  | _ :: _, [], _, _, _, _, hl, _, _, _, _ => by simp at hl
  | (i, a) :: parts, (i', v) :: vals, cs, cs', arr, h, hlen, hp, hl, h1, hr => by
    obtain ⟨hii, hv⟩ := hp 0 (i, a) (i', v) rfl rfl
    replace hv : VRel X L a v := hv
    replace hii : i = i' := hii
    subst hii
    simp only [fillA] at h
    simp only [Instr.fill]
    split at h
    · cases h
    · rename_i off size hpl
      split at h
      · rename_i hc
        obtain ⟨hn, hst, hle⟩ := hc
        replace hn : a.cells.length = size := hn
        obtain ⟨hc1, hc2, hc3⟩ := hv.cells hst
        simp only [hpl]
        rw [if_neg (show ¬ ((decide (v.cells.size ≠ size) || decide (off + v.cells.size > arr.size)) = true) by simp; omega)]
        obtain ⟨hz1, hz2⟩ := zip_fold off v.cells.toList 0 arr (by simp; omega)
        have hfold : v.cells.zipIdx.foldl (fun cs (x : Value × Nat) => cs.setIfInBounds (off + x.2) x.1) arr = (v.cells.toList.zipIdx 0).foldl (fun (cs : Array Value) (p : Value × Nat) => cs.setIfInBounds (off + p.2) p.1) arr := by
          rw [← Array.foldl_toList, Array.toList_zipIdx]
        simp only [Nat.add_zero, Array.length_toList, Array.getElem?_toList] at hz2
        have hpl2 : (putAt off a.cells cs).length = cs.length := by simp [putAt]; omega
        have hget : ∀ j : Nat, (putAt off a.cells cs)[j]? = if j < off then cs[j]? else if j < off + a.cells.length then a.cells[j - off]? else cs[j]? := fun j => splice_get (by omega) j
        have hrec := fill_run parts vals (putAt off a.cells cs) cs' (v.cells.zipIdx.foldl (fun cs (x : Value × Nat) => cs.setIfInBounds (off + x.2) x.1) arr) h (by simpa using hlen)
          (fun j p q hpj hqj => hp (j + 1) p q (by simpa using hpj) (by simpa using hqj)) (by rw [hfold, hz1, hpl2]; exact hl)
          (fun j u hu => by
            rw [hfold, hz2 j] at hu
            split at hu
            · exact hc2 _ _ hu
            · exact h1 _ _ hu)
          (fun j c u hcj hu => by
            rw [hfold, hz2 j] at hu
            rw [hget j] at hcj
            by_cases hj1 : j < off
            · rw [if_pos hj1] at hcj
              rw [if_neg (by omega)] at hu
              exact hr j c u hcj hu
            · rw [if_neg hj1] at hcj
              by_cases hj2 : j < off + a.cells.length
              · rw [if_pos hj2] at hcj
                rw [if_pos (by omega)] at hu
                exact hc3 _ _ _ hcj hu
              · rw [if_neg hj2] at hcj
                rw [if_neg (by omega)] at hu
                exact hr j c u hcj hu)
        obtain ⟨arr', q1, q2, q3, q4, q5⟩ := hrec
        exact ⟨arr', q1, q2, by rw [q3, hpl2], q4, q5⟩
      · cases h

theorem fieldPlaces_list (w : World) : ∀ (fl : List Field) (l : List (Nat × Nat × Bool)), fl.length = l.length →
    (∀ (f : Nat) off n g, l[f]? = some (off, n, g) → ∃ x i, fl[f]? = some x ∧ x.offset = off ∧ P.info? x.type = some i ∧ i.size = n) →
    (fl.mapM fun f => do pure (f.offset, ← sizeOf f.type) : Sem (List (Nat × Nat))).run P w = .ok (l.map fun r => (r.1, r.2.1)) w
  | [], [], _, _ => rfl
  | [], _ :: _, h, _ => by simp at h
  | _ :: _, [], h, _ => by simp at h
  | x :: fl, (off, n, g) :: l, hl, hf => by
    obtain ⟨y, i, h1, h2, h3, h4⟩ := hf 0 off n g rfl
    simp at h1
    subst h1
    have ih := fieldPlaces_list w fl l (by simpa using hl) (fun f off n g h => by
      obtain ⟨z, i, h1, h2⟩ := hf (f + 1) off n g (by simpa using h)
      exact ⟨z, i, by simpa using h1, h2⟩)
    have hz : (Go.sizeOf x.type).run P w = .ok n w := by simp [Go.sizeOf, typeInfo, h3, h4]
    simp only [List.mapM_cons, Sem.run_bind, Sem.run_pure, Result.andThen_ok, hz, ih, List.map_cons, h2]

theorem fieldPlaces_run {fs : Array Field} {l : List (Nat × Nat × Bool)} (hlen : fs.size = l.length)
    (hf : ∀ (f : Nat) off n g, l[f]? = some (off, n, g) → ∃ fl i d, fs[f]? = some fl ∧ fl.offset = off ∧ P.info? fl.type = some i ∧ i.size = n ∧ 0 < n ∧ P.underlying fl.type = some d ∧ aggD d = g) (w : World) :
    (fs.mapM fun f => do pure (f.offset, ← sizeOf f.type) : Sem (Array (Nat × Nat))).run P w = .ok (l.map fun r => (r.1, r.2.1)).toArray w := by
  rw [Array.mapM_eq_mapM_toList]
  simp only [Sem.run_map]
  rw [fieldPlaces_list w fs.toList l (by simpa using hlen) (fun f off n g h => by
    obtain ⟨x, i, d, h1, h2, h3, h4, _⟩ := hf f off n g h
    exact ⟨x, i, by simpa using h1, h2, h3, h4⟩)]
  rfl

include hT in
theorem aBuild_run {t : Nat} {parts : List (Nat × AV)} {r : AV} (h : aBuild T t parts = some r) {vals : Array (Nat × Value)} (hlen : vals.size = parts.length)
    (hp : ∀ (j : Nat) p q, parts[j]? = some p → vals[j]? = some q → p.1 = q.1 ∧ VRel X L p.2 q.2) : ∃ u, (Instr.build t vals).run P X.w = .ok u X.w ∧ VRel X L r u := by
  unfold aBuild at h
  split at h
  · cases h
  · rename_i zs hz
    obtain ⟨i, v, h1, h2, h3, h4⟩ := hT.zero t zs hz
    have hzl : v.cells.size = (zs.map AV.sc).length := by simp [← h3]
    have hz1 : ∀ (j : Nat) u, v.cells[j]? = some u → u.oneCell' = true := fun j u hu => h4 u (by rw [← h3]; exact List.mem_of_getElem? (i := j) (by simpa using hu))
    have hzr := sc_cells (X := X) (L := L) h3
    split at h
    · rename_i fs hfs
      obtain ⟨cs', hcs, rfl⟩ := Option.map_eq_some_iff.1 h
      obtain ⟨ff, hu, hl, hf⟩ := hT.fld t fs hfs
      obtain ⟨arr', q1, q2, q3, q4, q5⟩ := fill_run parts vals.toList _ cs' v.cells hcs (by simpa using hlen) (fun j p q a b => hp j p q a (by simpa using b)) hzl hz1 hzr
      refine ⟨.agg arr', ?_, .agg q2 q4 q5⟩
      have hplace : (fun (i : Nat) => (fs.map fun r => (r.1, r.2.1)).toArray[i]?) = fun (i : Nat) => (fs[i]?).map fun r => (r.1, r.2.1) := by
        funext i
        simp
      simp only [Instr.build, Sem.run_bind, zeroValue, typeInfo, run_program, Result.andThen_ok, h1, h2, Sem.run_pure, run_underlying hu, fieldPlaces_run hl hf, hplace, q1]
    · rename_i n z g hfs ha
      obtain ⟨cs', hcs, rfl⟩ := Option.map_eq_some_iff.1 h
      obtain ⟨e, ii, d, hu, hi, hsz, _⟩ := hT.arr _ _ _ _ ha
      obtain ⟨arr', q1, q2, q3, q4, q5⟩ := fill_run parts vals.toList _ cs' v.cells hcs (by simpa using hlen) (fun j p q a b => hp j p q a (by simpa using b)) hzl hz1 hzr
      refine ⟨.agg arr', ?_, .agg q2 q4 q5⟩
      simp only [Instr.build, Sem.run_bind, zeroValue, typeInfo, run_program, Result.andThen_ok, h1, h2, Sem.run_pure, run_underlying hu, Go.sizeOf, hi, hsz, q1]
    · cases h

/-- Rows cut out of cells. -/
theorem News.chunks {z len : Nat} {cs : List AV} {arr : Array Value} (hl : arr.size = cs.length) (hlen : cs.length = len * z) (h1 : ∀ (j : Nat) v, arr[j]? = some v → v.oneCell' = true)
    (hr : ∀ (j : Nat) c v, cs[j]? = some c → arr[j]? = some v → FRel X.w X.M c v) : News X true z (chunks z len cs) arr.toList where
  len := by rw [chunks_length]; simp; omega
  row := fun y hy => by
    obtain ⟨i, hi⟩ := List.mem_iff_getElem?.1 hy
    obtain ⟨rfl, hlt⟩ := chunks_get hi
    have : (i + 1) * z ≤ len * z := Nat.mul_le_mul_right _ hlt
    rw [Nat.add_mul] at this
    simp
    omega
  one := fun v hv => by
    obtain ⟨j, hj⟩ := List.mem_iff_getElem?.1 hv
    exact h1 j v (by simpa using hj)
  rel := fun i j y c hy hc => by
    obtain ⟨rfl, hlt⟩ := chunks_get hy
    rw [List.getElem?_take] at hc
    split at hc
    · rw [List.getElem?_drop] at hc
      have hb := (List.getElem?_eq_some_iff.1 hc).1
      have hcell : arr[i * z + j]? = some (arr[i * z + j]'(by omega)) := Array.getElem?_eq_getElem _
      exact ⟨_, by simp, .frz (hr _ _ _ hc hcell), fun _ => hr _ _ _ hc hcell⟩
    · cases hc

/-- Rows cut out of cells, whatever they lead to. -/
theorem News.chunksV {z len : Nat} {cs : List AV} {arr : Array Value} (hl : arr.size = cs.length) (hlen : cs.length = len * z) (h1 : ∀ (j : Nat) v, arr[j]? = some v → v.oneCell' = true)
    (hr : ∀ (j : Nat) c v, cs[j]? = some c → arr[j]? = some v → VRel X [] c v) : News X false z (Go.Abs.chunks z len cs) arr.toList where
  len := by rw [chunks_length]; simp; omega
  row := fun y hy => by
    obtain ⟨i, hi⟩ := List.mem_iff_getElem?.1 hy
    obtain ⟨rfl, hlt⟩ := chunks_get hi
    have : (i + 1) * z ≤ len * z := Nat.mul_le_mul_right _ hlt
    rw [Nat.add_mul] at this
    simp
    omega
  one := fun v hv => by
    obtain ⟨j, hj⟩ := List.mem_iff_getElem?.1 hv
    exact h1 j v (by simpa using hj)
  rel := fun i j y c hy hc => by
    obtain ⟨rfl, hlt⟩ := chunks_get hy
    rw [List.getElem?_take] at hc
    split at hc
    · rw [List.getElem?_drop] at hc
      have hb := (List.getElem?_eq_some_iff.1 hc).1
      have hcell : arr[i * z + j]? = some (arr[i * z + j]'(by omega)) := Array.getElem?_eq_getElem _
      exact ⟨_, by simp, hr _ _ _ hc hcell, fun h => by cases h⟩
    · cases hc

theorem flatten_get {α : Type} {l : List α} {n j : Nat} (hl : 0 < l.length) (hj : j < n * l.length) : (List.replicate n l).flatten[j]? = l[j % l.length]? := by
  induction n generalizing j with
  | zero => simp at hj
  | succ n ih =>
    simp only [List.replicate_succ, List.flatten_cons]
    rw [Nat.add_mul] at hj
    by_cases h : j < l.length
    · rw [List.getElem?_append_left h, Nat.mod_eq_of_lt h]
    · rw [List.getElem?_append_right (by omega), ih (j := j - l.length) (by omega), ← Nat.mod_eq_sub_mod (by omega)]

theorem flatten_length {α : Type} (l : List α) (n : Nat) : (List.replicate n l).flatten.length = n * l.length := by simp

/-- The zero cells of a new row. -/
theorem zeros_rel {zs : List Value} {zv : Array Value} (h : zv.toList = zs) (hz : 0 < zs.length) (n : Nat) (h1 : ∀ x ∈ zs, x.oneCell' = true) :
    ((Array.range (n * zs.length)).map (zv[· % zv.size]!)).size = (List.replicate n (zs.map AV.sc)).flatten.length ∧
    (∀ (j : Nat) v, ((Array.range (n * zs.length)).map (zv[· % zv.size]!))[j]? = some v → v.oneCell' = true) ∧
    ∀ (j : Nat) c v, (List.replicate n (zs.map AV.sc)).flatten[j]? = some c → ((Array.range (n * zs.length)).map (zv[· % zv.size]!))[j]? = some v → VRel X L c v := by
  have hsz : zv.size = zs.length := by rw [← h]; simp
  have hget : ∀ (j : Nat) v, ((Array.range (n * zs.length)).map (zv[· % zv.size]!))[j]? = some v → j < n * zs.length ∧ zs[j % zs.length]? = some v := by
    intro j v hv
    simp only [Array.getElem?_map] at hv
    obtain ⟨i, hi, rfl⟩ := Option.map_eq_some_iff.1 hv
    obtain ⟨hlt, rfl⟩ := Array.getElem?_eq_some_iff.1 hi
    simp at hlt
    simp only [Array.getElem_range]
    refine ⟨hlt, ?_⟩
    have hm : j % zv.size < zv.size := Nat.mod_lt _ (by omega)
    rw [getElem!_pos zv _ hm, ← h]
    simp [hsz]
  refine ⟨by simp, fun j v hv => h1 v (List.mem_of_getElem? (hget j v hv).2), fun j c v hc hv => ?_⟩
  obtain ⟨hj, hv⟩ := hget j v hv
  rw [flatten_get (by simpa using hz) (by simpa using hj), List.getElem?_map, List.length_map, hv] at hc
  cases hc
  exact .frz (.sc _)

theorem fillA_pure {place : Nat → Option (Nat × Nat)} : ∀ (parts : List (Nat × AV)) (cs cs' : List AV), fillA place parts cs = some cs' → AV.pureL (parts.map (·.2)) = true → (∀ (j : Nat) c, cs[j]? = some c → c.pure = true) →
    ∀ (j : Nat) c, cs'[j]? = some c → c.pure = true
  | [], cs, cs', h, _, hc => by
    simp only [fillA, Option.some.injEq] at h
    exact h ▸ hc
  | (i, a) :: parts, cs, cs', h, hp, hc => by
    simp only [List.map_cons, AV.pureL, Bool.and_eq_true] at hp
    simp only [fillA] at h
    split at h
    · cases h
    · rename_i off size hpl
      split at h
      · rename_i hcc
        obtain ⟨hn, hst, hle⟩ := hcc
        refine fillA_pure parts _ cs' h hp.2 fun j c hj => ?_
        rw [putAt, splice_get (show off + a.cells.length ≤ cs.length by have : a.cells.length = size := hn; omega)] at hj
        split at hj
        · exact hc _ _ hj
        · split at hj
          · exact cells_pure hp.1 hj
          · exact hc _ _ hj
      · cases h

theorem fillA_still {place : Nat → Option (Nat × Nat)} : ∀ (parts : List (Nat × AV)) (cs cs' : List AV), fillA place parts cs = some cs' → AV.stillL (parts.map (·.2)) = true → (∀ (j : Nat) c, cs[j]? = some c → c.still = true) →
    ∀ (j : Nat) c, cs'[j]? = some c → c.still = true
  | [], cs, cs', h, _, hc => by
    simp only [fillA, Option.some.injEq] at h
    exact h ▸ hc
  | (i, a) :: parts, cs, cs', h, hp, hc => by
    simp only [List.map_cons, AV.stillL, Bool.and_eq_true] at hp
    simp only [fillA] at h
    split at h
    · cases h
    · rename_i off size hpl
      split at h
      · rename_i hcc
        obtain ⟨hn, hst, hle⟩ := hcc
        refine fillA_still parts _ cs' h hp.2 fun j c hj => ?_
        rw [putAt, splice_get (show off + a.cells.length ≤ cs.length by have : a.cells.length = size := hn; omega)] at hj
        split at hj
        · exact hc _ _ hj
        · split at hj
          · exact cells_still hp.1 hj
          · exact hc _ _ hj
      · cases h

include hT in
theorem buildSlice_run (hX : X.Ok) {t len : Nat} {parts : List (Nat × AV)} {zs : List Value} {z : Nat} {xs : List (List AV)} (hez : T.ezero t = some zs)
    {own : Bool} (h : slLit T own t len parts zs = some (z, xs)) {vals : Array (Nat × Value)} (hlen : vals.size = parts.length)
    (hp : ∀ (j : Nat) p q, parts[j]? = some p → vals[j]? = some q → p.1 = q.1 ∧ VRel X L p.2 q.2) :
    ∃ q w', (Instr.buildSlice t len vals).run P X.w = .ok q w' ∧
      (if own then Step X L (.os X.H.length 0 len 0) (X.H ++ [.own 0 z xs]) q w' else Step X L (.sl false z xs) X.H q w') := by
  unfold slLit at h
  split at h
  · cases h
  · rename_i z' eb he
    split at h
    · rename_i hc
      obtain ⟨hzl, hz0, hmax, hpure⟩ := hc
      obtain ⟨cs', hcs, hzx⟩ := Option.map_eq_some_iff.1 h
      cases hzx
      obtain ⟨te, hte, hzt⟩ := Option.bind_eq_some_iff.1 hez
      replace hte := hT.ety _ _ hte
      obtain ⟨e, i, zv, hu, hi, hsz, hby, hzv, hzs, hzo⟩ := hT.elem _ _ _ he
      rw [hte] at hu
      cases hu
      obtain ⟨i2, v2, h1, h2, h3, h4⟩ := hT.zero te zs hzt
      rw [hi] at h1
      cases h1
      rw [hzv] at h2
      cases h2
      subst hzl
      obtain ⟨r1, r2, r3⟩ := zeros_rel (X := X) (L := L) h3 hz0 len h4
      obtain ⟨arr', q1, q2, q3, q4, q5⟩ := fill_run parts vals.toList _ cs' _ hcs (by simpa using hlen) (fun j p q a b => hp j p q a (by simpa using b)) r1 r2 r3
      have hzero : ∀ (j : Nat) c, (List.replicate len (zs.map AV.sc)).flatten[j]? = some c → ∃ u, c = .sc u := fun j c hj => by
        have hm := List.mem_of_getElem? hj
        rw [List.mem_flatten] at hm
        obtain ⟨l, hl, hcl⟩ := hm
        rw [List.eq_of_mem_replicate hl] at hcl
        obtain ⟨u, _, rfl⟩ := List.mem_map.1 hcl
        exact ⟨u, rfl⟩
      have hcl : cs'.length = len * zs.length := by rw [q3, flatten_length, List.length_map]
      have hrun : (Instr.buildSlice t len vals).run P X.w = .ok (.slice (some ⟨X.w.heap.size, 0, none⟩) len len) (X.w.alloc (.cells arr' te)) := by
        have hmx : ¬ (16777216 < len * zs.length) := by omega
        have hzero : (zeroValue te).run P X.w = .ok zv X.w := by simp [zeroValue, typeInfo, hi, hzv]
        simp only [Instr.buildSlice, Sem.run_bind, run_underlying hte, Result.andThen_ok, Go.sizeOf, typeInfo, run_program, hi, Sem.run_pure, hsz]
        rw [if_neg hmx]
        by_cases h0 : len * zs.length = 0
        · have hr : (Array.range (len * zs.length)).map (fun x => (#[] : Array Value)[x % (#[] : Array Value).size]!) = (Array.range (len * zs.length)).map (zv.cells[· % zv.cells.size]!) := by rw [h0]; simp
          simp only [if_pos h0, Sem.run_bind, Sem.run_pure, Result.andThen_ok, hr, q1, newRow, run_newObj]
          rfl
        · simp only [if_neg h0, Sem.run_bind, Sem.run_pure, Result.andThen_ok, hzero, q1, newRow, run_newObj]
          rfl
      have hlx : (Go.Abs.chunks zs.length len cs').length = len := chunks_length _ _ _
      refine ⟨_, _, hrun, ?_⟩
      cases own with
      | true =>
        have hpu := fillA_still parts _ cs' hcs hpure (fun j c hj => by obtain ⟨u, rfl⟩ := hzero j c hj; rfl)
        have hn : News X false zs.length (Go.Abs.chunks zs.length len cs') arr'.toList := News.chunksV q2 hcl q4 fun j c v hc hv => (q5 j c v hc hv).calm (hpu j c hc)
        simp only [if_true]
        have := own_new (L := L) hX hz0 hn (grown_alloc X.w (.cells arr' te)) (fun m v hv => by simpa using hv) (cap := len) (by rw [hlx]; exact Nat.le_refl _) (by rw [q2, hcl]) q4
        rw [hlx] at this
        exact this
      | false =>
        have hpu := fillA_pure parts _ cs' hcs hpure (fun j c hj => by obtain ⟨u, rfl⟩ := hzero j c hj; rfl)
        have hn : News X true zs.length (Go.Abs.chunks zs.length len cs') arr'.toList := News.chunks q2 hcl q4 fun j c v hc hv => (q5 j c v hc hv).pure (hpu j c hc)
        simp only [Bool.false_eq_true, if_false]
        have := frozen_new (L := L) hX hn (grown_alloc X.w (.cells arr' te)) (fun m v hv => by simpa using hv) (f := false) (cap := len) (by rw [hlx]; exact Nat.le_refl _) (fun h => by cases h)
        rw [hlx] at this
        exact this
    · cases h

theorem i64_id {x : Int} (h0 : 0 ≤ x) (h : x ≤ 9223372036854775807) : IntKind.i64.wrap x = x := by
  have hm : x % 18446744073709551616 = x := Int.emod_eq_of_lt h0 (by omega)
  have hd : decide (x ≥ 9223372036854775808) = false := by simp; omega
  show (if (true && decide (x % 18446744073709551616 ≥ 9223372036854775808)) = true then x % 18446744073709551616 - 18446744073709551616 else x % 18446744073709551616) = x
  simp only [hm, hd, Bool.and_false, Bool.false_eq_true, if_false]

theorem replicate_chunks (z : Nat) (l : List AV) (hl : l.length = z) : ∀ n, chunks z n (List.replicate n l).flatten = List.replicate n l
  | 0 => rfl
  | n + 1 => by
    have h1 : (l ++ (List.replicate n l).flatten).take z = l := by rw [List.take_append_of_le_length (by omega), List.take_of_length_le (by omega)]
    have h2 : (l ++ (List.replicate n l).flatten).drop z = (List.replicate n l).flatten := by rw [List.drop_append_of_le_length (by omega), List.drop_of_length_le (by omega), List.nil_append]
    simp only [chunks, List.replicate_succ, List.flatten_cons, h1, h2, replicate_chunks z l hl n]

include hT in
theorem aMake_run (hX : X.Ok) {own : Bool} {t : Nat} {a b r : AV} {H' : List Ent} (h : aMake T own X.H t a b (T.ezero t) = some (r, H')) {u v : Value} (hu : VRel X L a u) (hv : VRel X L b v) :
    ∃ q w', (Instr.makeSlice t u v).run P X.w = .ok q w' ∧ Step X L r H' q w' := by
  unfold aMake at h
  split at h
  · rename_i z eb l c zs he hez
    split at h
    · rename_i hc
      obtain ⟨h0, hlc, hmax, hzl, hz0, hroom⟩ := hc
      simp only [room, decide_eq_true_eq] at hroom
      obtain ⟨hb0, hroom⟩ := hroom
      obtain ⟨te, hte, hzt⟩ := Option.bind_eq_some_iff.1 hez
      replace hte := hT.ety _ _ hte
      obtain ⟨e, i, zv, hun, hi, hsz, hby, hzv, hzs, hzo⟩ := hT.elem _ _ _ he
      rw [hte] at hun
      cases hun
      obtain ⟨i2, v2, h1, h2, h3, h4⟩ := hT.zero te zs hzt
      rw [hi] at h1
      cases h1
      rw [hzv] at h2
      cases h2
      subst hzl
      obtain ⟨ln, rfl⟩ : ∃ n : Nat, l = n := ⟨l.toNat, by omega⟩
      obtain ⟨cn, rfl⟩ : ∃ n : Nat, c = n := ⟨c.toNat, by omega⟩
      simp only [Int.toNat_natCast] at hroom h
      have hle : ln ≤ cn := by omega
      obtain ⟨r1, r2, r3⟩ := zeros_rel (X := X) (L := L) h3 hz0 cn h4
      have hrow : News X true zs.length (List.replicate ln (zs.map AV.sc)) (List.replicate ln zs).flatten := by
        refine ⟨by simp, fun y hy => by rw [List.eq_of_mem_replicate hy]; simp, fun v hv => ?_, fun i j y c hy hc => ?_⟩
        · rw [List.mem_flatten] at hv
          obtain ⟨l, hl, hv⟩ := hv
          rw [List.eq_of_mem_replicate hl] at hv
          exact h4 v hv
        · have hi := (List.getElem?_eq_some_iff.1 hy).1
          have hy := List.mem_of_getElem? hy
          rw [List.eq_of_mem_replicate hy] at hc
          have hj := (List.getElem?_eq_some_iff.1 hc).1
          simp at hi hj
          rw [List.getElem?_map] at hc
          obtain ⟨u, hu, rfl⟩ := Option.map_eq_some_iff.1 hc
          have hlt : i * zs.length + j < ln * zs.length := by
            have : (i + 1) * zs.length ≤ ln * zs.length := Nat.mul_le_mul_right _ hi
            rw [Nat.add_mul] at this
            omega
          refine ⟨u, ?_, .frz (.sc _), fun _ => .sc _⟩
          rw [flatten_get hz0 hlt, Nat.mul_comm, Nat.mul_add_mod, Nat.mod_eq_of_lt hj]
          exact hu
      rw [hu.sc_inv, hv.sc_inv]
      have hrun : (Instr.makeSlice t (.int .i64 ln) (.int .i64 cn)).run P X.w = .ok (.slice (some ⟨X.w.heap.size, 0, none⟩) ln cn) (X.w.alloc (.cells ((Array.range (cn * zs.length)).map (zv.cells[· % zv.cells.size]!)) te)) := by
        have hw1 : IntKind.i64.wrap (ln : Int) = ln := i64_id (by omega) (by omega)
        have hw2 : IntKind.i64.wrap (cn : Int) = cn := i64_id (by omega) (by omega)
        have hzero : (zeroValue te).run P X.w = .ok zv X.w := by simp [zeroValue, typeInfo, hi, hzv]
        have hbig : ¬ ((281474976710656 : Int) < i.bytes * (cn : Int)) := by
          have : ((cn * i.bytes : Nat) : Int) ≤ 140737488355328 := by
            rw [← hby] at hroom
            omega
          rw [Int.natCast_mul, Int.mul_comm] at this
          omega
        have hn1 : ¬ ((cn : Int) < 0) := by omega
        have hn2 : ¬ ((ln : Int) < 0) := by omega
        have hn3 : ¬ ((cn : Int) < ln) := by omega
        simp only [Instr.makeSlice, Sem.run_bind, run_underlying hte, Result.andThen_ok, asInt, asIntOf, Sem.run_pure, typeInfo, run_program, hi, hw1, hw2]
        rw [if_neg (by simp [hbig, hn1, hn2, hn3])]
        simp only [Sem.run_bind, run_askRoom, Result.andThen_ok, Go.sizeOf, typeInfo, run_program, hi, Sem.run_pure, hsz, Int.toNat_natCast]
        by_cases h0 : cn * zs.length = 0
        · have hr : (Array.range (cn * zs.length)).map (fun x => (#[] : Array Value)[x % (#[] : Array Value).size]!) = (Array.range (cn * zs.length)).map (zv.cells[· % zv.cells.size]!) := by rw [h0]; simp
          simp only [if_pos h0, Sem.run_bind, Sem.run_pure, Result.andThen_ok, hr, newRow, run_newObj]
          rfl
        · simp only [if_neg h0, Sem.run_bind, Sem.run_pure, Result.andThen_ok, hzero, newRow, run_newObj]
          rfl
      have hget : ∀ (m : Nat) v, (List.replicate ln zs).flatten[m]? = some v → ((Array.range (cn * zs.length)).map (zv.cells[· % zv.cells.size]!))[m]? = some v := by
        intro m v hv
        have hm := (List.getElem?_eq_some_iff.1 hv).1
        rw [flatten_length] at hm
        rw [flatten_get hz0 hm] at hv
        have hmc : m < cn * zs.length := Nat.lt_of_lt_of_le hm (Nat.mul_le_mul_right _ hle)
        have hmm : m % zv.cells.size < zv.cells.size := Nat.mod_lt _ (by omega)
        simp only [Array.getElem?_map, Array.getElem?_range, hmc, if_true, Option.map_some]
        rw [getElem!_pos zv.cells _ hmm]
        rw [← h3] at hv
        simp only [Array.length_toList] at hv
        rw [Array.getElem?_toList, Array.getElem?_eq_getElem hmm] at hv
        exact hv
      refine ⟨_, _, hrun, ?_⟩
      split at h
      · cases h
        have := own_new (L := L) hX hz0 hrow (grown_alloc X.w (.cells ((Array.range (cn * zs.length)).map (zv.cells[· % zv.cells.size]!)) te)) hget (cap := cn) (by simpa using hle) (by simp) r2
        simpa using this
      · split at h
        · rename_i hlcn
          cases h
          have hlc' : ln = cn := by omega
          subst hlc'
          have := frozen_new (L := L) hX hrow (grown_alloc X.w (.cells ((Array.range (ln * zs.length)).map (zv.cells[· % zv.cells.size]!)) te)) hget (f := false) (cap := ln) (by simp) (fun h => by cases h)
          simpa using this
        · cases h
    · cases h
  · cases h
end
end Go.Abs
