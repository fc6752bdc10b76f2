/- Storing, copying; new variables and new slices. -/
import Derived.Test.YtlphdiccffnckaaOpn
namespace Go.Abs

theorem splice_get {α : Type} {l m : List α} {off : Nat} (h : off + m.length ≤ l.length) (j : Nat) :
    (l.take off ++ m ++ l.drop (off + m.length))[j]? = if j < off then l[j]? else if j < off + m.length then m[j - off]? else l[j]? := by
  have ht : (l.take off).length = off := by rw [List.length_take]; omega
  rw [List.append_assoc]
  split
  · rename_i hj
    rw [List.getElem?_append_left (by omega), List.getElem?_take, if_pos hj]
  · rename_i hj
    rw [List.getElem?_append_right (by omega), ht]
    split
    · rw [List.getElem?_append_left (by omega)]
    · rw [List.getElem?_append_right (by omega), List.getElem?_drop]
      congr 1
      omega

theorem one_get {α : Type} {a c : α} {i : Nat} (h : [a][i]? = some c) : c = a := by
  cases i with
  | zero => simpa using h.symm
  | succ i => simp at h

theorem cells_still {a : AV} (h : a.still = true) {i : Nat} {c : AV} (hc : a.cells[i]? = some c) : c.still = true := by
  cases a <;> first
    | exact stillL_get h i c hc
    | (rw [one_get hc]; exact h)

theorem cells_pure {a : AV} (h : a.pure = true) {i : Nat} {c : AV} (hc : a.cells[i]? = some c) : c.pure = true := by
  cases a <;> first
    | exact pureL_get h i c hc
    | (rw [one_get hc]; exact h)

theorem cells_under {a : AV} {b : Nat} (h : AV.under b a = true) {i : Nat} {c : AV} (hc : a.cells[i]? = some c) : AV.under b c = true := by
  cases a <;> first
    | exact underL_get h i c hc
    | (rw [one_get hc]; exact h)

section
variable {P : Program} {T : TT} (hT : TOk P T) {X : Cx} {L : List Nat}

/-- Cells written into a block. -/
theorem run_store_cells {w : World} {t n b o : Nat} {g : Bool} (hT : TOk P T) (hs : T.size t = some (n, g)) {arr : Array Value} {ty : TypeId} (hb : w.heap[b]? = some (.cells arr ty (0, 0))) {v : Value}
    (hn : v.cells.size = n) (ho : o + n ≤ arr.size) (h1 : ∀ (i : Nat) u, v.cells[i]? = some u → u.oneCell' = true) :
    (Instr.storeAt t (.pointer (some ⟨b, o, none⟩)) v).run P w = .ok () (w.setRow b (arr.toList.take o ++ v.cells.toList ++ arr.toList.drop (o + v.cells.toList.length)).toArray) := by
  have hst := run_storeCells_at P b o ty v.cells.toList 0 arr w hb (by simp; omega) (fun u hu => by
    obtain ⟨i, hi⟩ := List.mem_iff_getElem?.1 hu
    exact h1 i u (by simpa using hi))
  simp only [Nat.add_zero] at hst
  simp only [Instr.storeAt, Instr.sureAddr, Sem.run_bind, Sem.run_pure, Result.andThen_ok, storeVar, hT.sizeOf hs, hn, ne_eq, not_true_eq_false, if_false]
  exact hst

theorem setRow_size (w : World) (b : Nat) (c : Array Value) : (w.setRow b c).heap.size = w.heap.size := by simp [World.setRow]

include hT in
theorem aStore_run (hX : X.Ok) {b0 t : Nat} {a x : AV} {H' : List Ent} (h : aStore T b0 X.H t a x = some H') {u v : Value} (hu : VRel X L a u) (hv : VRel X L x v) :
    ∃ w', (Instr.storeAt t u v).run P X.w = .ok () w' ∧ ∃ X' : Cx, X'.w = w' ∧ X'.H = H' ∧ X'.Ok ∧ Trans X X' := by
  unfold aStore at h
  split at h
  · cases h
  · rename_i n g hs
    split at h
    · rename_i hc
      obtain ⟨hn, hst⟩ := hc
      obtain ⟨hc1, hc2, hc3⟩ := hv.cells hst
      rw [hn] at hc1
      split at h
      · rename_i k off
        split at h
        · rename_i cs hk
          split at h
          · rename_i hc
            obtain ⟨hle, hstill, _⟩ := hc
            cases h
            obtain ⟨e', hE, hr⟩ := hX.hec hk
            cases e' <;> simp only [EntRel] at hr
            rename_i b
            obtain ⟨hM, arr, ty, h1, h2, h3, h4⟩ := hr
            obtain rfl := hu.bp_inv.2.2 b hE
            refine ⟨_, run_store_cells hT hs h1 hc1 (by omega) hc2, ?_⟩
            have hsz := setRow_size X.w b (arr.toList.take off ++ v.cells.toList ++ arr.toList.drop (off + v.cells.toList.length)).toArray
            have hlat := later_setRow X.w b (arr.toList.take off ++ v.cells.toList ++ arr.toList.drop (off + v.cells.toList.length)).toArray
            have hvl : v.cells.toList.length = x.cells.length := by simp [hc1, hn]
            have hset := setRow_heap X.w b arr (arr.toList.take off ++ v.cells.toList ++ arr.toList.drop (off + v.cells.toList.length)).toArray ty (0, 0) h1
            have hbl := (Array.getElem?_eq_some_iff.1 h1).1
            have hk1 : ∀ b', b' < X.w.heap.size → (EC.box b).blk ≠ some b' → (X.w.setRow b (arr.toList.take off ++ v.cells.toList ++ arr.toList.drop (off + v.cells.toList.length)).toArray).heap[b']? = X.w.heap[b']? :=
              fun b' _ hne => setRow_other X.w b b' _ (fun he => hne (by simp [EC.blk, he]))
            generalize X.w.setRow b (arr.toList.take off ++ v.cells.toList ++ arr.toList.drop (off + v.cells.toList.length)).toArray = w1 at *
            refine ⟨X.put w1 k (.box b) (.box (putAt off x.cells cs)) (.box b), rfl, rfl, Cx.put_ok hX hk hE hlat hk1 (fun _ hb => .inl hb) (fun b' hb' => by
                simp only [EC.blk, Option.some.injEq] at hb'; rw [hsz]; omega) rfl (fun t => ⟨.inr rfl, _, ty, hset, ?_, fun j w' hw => ?_, fun j c w' hcc hw => ?_⟩),
              Cx.put_trans hX hk hE hlat hk1 (fun _ hb => .inl hb) rfl⟩
            · simp [putAt, hc1, hn, h2]
            · simp only [List.getElem?_toArray] at hw
              rw [splice_get (by simp; omega)] at hw
              split at hw
              · exact h3 _ _ (by simpa using hw)
              · split at hw
                · exact hc2 _ _ (by simpa using hw)
                · exact h3 _ _ (by simpa using hw)
            · simp only [List.getElem?_toArray] at hw
              rw [splice_get (by simp; omega)] at hw
              unfold putAt at hcc
              rw [splice_get (by omega)] at hcc
              rw [hvl] at hw
              split at hw
              · rw [if_pos (by assumption)] at hcc
                exact (h4 _ _ _ hcc (by simpa using hw)).trans t hX
              · rw [if_neg (by assumption)] at hcc
                split at hw
                · rw [if_pos (by assumption)] at hcc
                  refine VRel.trans t hX ?_
                  exact (hc3 _ _ _ hcc (by simpa using hw)).calm (cells_still hstill hcc)
                · rw [if_neg (by assumption)] at hcc
                  exact (h4 _ _ _ hcc (by simpa using hw)).trans t hX
          · cases h
        · cases h
      · rename_i k i off vr
        split at h
        · rename_i vr' z xs hk
          split at h
          · rename_i hvr
            subst hvr
            split at h
            · rename_i y hy
              split at h
              · rename_i hc
                obtain ⟨hle, hstill, _⟩ := hc
                cases h
                obtain ⟨e', hE, hr⟩ := hX.hec hk
                cases e' <;> simp only [EntRel] at hr
                rename_i hdr
                obtain ⟨a, nn, cap', hhdr, rfl⟩ := hu.op_inv.2.2.2 z xs hdr hk hE
                obtain ⟨hz, hl, hr⟩ := hr
                rcases hr with ⟨_, _, rfl⟩ | ⟨b, cap, arr, ty, h1, hM, h2, h3, h5, h7, h6⟩
                · simp at hy
                · rw [h1] at hhdr
                  cases hhdr
                  subst h1
                  have hyl := hl y (List.mem_of_getElem? hy)
                  have hilt := (List.getElem?_eq_some_iff.1 hy).1
                  have hfit : i * z + off + n ≤ arr.size := by
                    have : (i + 1) * z ≤ (cap + 1) * z := Nat.mul_le_mul_right _ (by omega)
                    rw [h3]
                    rw [Nat.add_mul] at this
                    omega
                  refine ⟨_, run_store_cells hT hs h2 hc1 hfit hc2, ?_⟩
                  have hsz := setRow_size X.w b (arr.toList.take (i * z + off) ++ v.cells.toList ++ arr.toList.drop (i * z + off + v.cells.toList.length)).toArray
                  have hlat := later_setRow X.w b (arr.toList.take (i * z + off) ++ v.cells.toList ++ arr.toList.drop (i * z + off + v.cells.toList.length)).toArray
                  have hvl : v.cells.toList.length = x.cells.length := by simp [hc1, hn]
                  have hset := setRow_heap X.w b arr (arr.toList.take (i * z + off) ++ v.cells.toList ++ arr.toList.drop (i * z + off + v.cells.toList.length)).toArray ty (0, 0) h2
                  have hbl := (Array.getElem?_eq_some_iff.1 h2).1
                  have hpl : (putAt off x.cells y).length = z := by simp [putAt]; omega
                  have hk1 : ∀ b', b' < X.w.heap.size → (EC.own (.slice (some ⟨b, 0, none⟩) xs.length (cap + 1))).blk ≠ some b' →
                      (X.w.setRow b (arr.toList.take (i * z + off) ++ v.cells.toList ++ arr.toList.drop (i * z + off + v.cells.toList.length)).toArray).heap[b']? = X.w.heap[b']? :=
                    fun b' _ hne => setRow_other X.w b b' _ (fun he => hne (by simp [EC.blk, he]))
                  generalize X.w.setRow b (arr.toList.take (i * z + off) ++ v.cells.toList ++ arr.toList.drop (i * z + off + v.cells.toList.length)).toArray = w1 at *
                  have hturn : Turns (.own vr z xs) (.own (.slice (some ⟨b, 0, none⟩) xs.length (cap + 1))) (.own vr z (xs.set i (putAt off x.cells y))) (.own (.slice (some ⟨b, 0, none⟩) xs.length (cap + 1))) := ⟨Nat.le_refl _, rfl, fun _ => rfl⟩
                  refine ⟨X.put w1 k (.own (.slice (some ⟨b, 0, none⟩) xs.length (cap + 1))) (.own vr z (xs.set i (putAt off x.cells y))) (.own (.slice (some ⟨b, 0, none⟩) xs.length (cap + 1))), rfl, rfl,
                    Cx.put_ok hX hk hE hlat hk1 (fun _ hb => .inl hb) (fun b' hb' => by
                      simp only [EC.blk, Option.some.injEq] at hb'; rw [hsz]; omega) hturn (fun t => ⟨hz, fun y' hy' => ?_, .inr ⟨b, cap, _, ty, by rw [List.length_set], .inr rfl, hset, ?_, by rw [List.length_set]; exact h5, fun j w' hw => ?_, fun i' j y' c hy' hcc => ?_⟩⟩),
                    Cx.put_trans hX hk hE hlat hk1 (fun _ hb => .inl hb) hturn⟩
                  · rcases List.mem_or_eq_of_mem_set hy' with hm | rfl
                    · exact hl y' hm
                    · exact hpl
                  · simp [hc1]
                    omega
                  · simp only [List.getElem?_toArray] at hw
                    rw [splice_get (by simp; omega)] at hw
                    split at hw
                    · exact h7 _ _ (by simpa using hw)
                    · split at hw
                      · exact hc2 _ _ (by simpa using hw)
                      · exact h7 _ _ (by simpa using hw)
                  · simp only [List.getElem?_toArray]
                    rw [splice_get (by simp; omega), hvl]
                    rw [List.getElem?_set] at hy'
                    split at hy'
                    · rename_i hii
                      subst hii
                      simp only [Option.some.injEq] at hy'
                      subst hy'
                      unfold putAt at hcc
                      rw [splice_get (by omega)] at hcc
                      by_cases hj1 : j < off
                      · rw [if_pos hj1] at hcc
                        rw [if_pos (by omega)]
                        obtain ⟨q, h8, h9⟩ := h6 i j y c hy hcc
                        exact ⟨q, by simpa using h8, h9.trans t hX⟩
                      · rw [if_neg hj1] at hcc
                        rw [if_neg (by omega)]
                        by_cases hj2 : j < off + x.cells.length
                        · rw [if_pos hj2] at hcc
                          rw [if_pos (by omega)]
                          have hlt := (List.getElem?_eq_some_iff.1 hcc).1
                          have hvv : v.cells[j - off]? = some (v.cells[j - off]'(by omega)) := Array.getElem?_eq_getElem _
                          refine ⟨_, by rw [show i * z + j - (i * z + off) = j - off by omega]; simp, VRel.trans t hX ((hc3 _ _ _ hcc hvv).calm (cells_still hstill hcc))⟩
                        · rw [if_neg hj2] at hcc
                          rw [if_neg (by omega)]
                          obtain ⟨q, h8, h9⟩ := h6 i j y c hy hcc
                          exact ⟨q, by simpa using h8, h9.trans t hX⟩
                    · rename_i hii
                      have hj := (List.getElem?_eq_some_iff.1 hcc).1
                      rw [hl y' (List.mem_of_getElem? hy')] at hj
                      obtain ⟨q, h8, h9⟩ := h6 i' j y' c hy' hcc
                      refine ⟨q, ?_, h9.trans t hX⟩
                      rcases Nat.lt_or_gt_of_ne hii with hlt | hgt
                      · have : (i + 1) * z ≤ i' * z := Nat.mul_le_mul_right _ hlt
                        rw [Nat.add_mul] at this
                        rw [if_neg (by omega), if_neg (by omega)]
                        simpa using h8
                      · have : (i' + 1) * z ≤ i * z := Nat.mul_le_mul_right _ hgt
                        rw [Nat.add_mul] at this
                        rw [if_pos (by omega)]
                        simpa using h8
              · cases h
            · cases h
          · cases h
        · cases h
      · cases h
    · cases h
end
end Go.Abs
