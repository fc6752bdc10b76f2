/- Appending: what it leaves. -/
import Derived.Test.YtlphdiccffnckaaOpm
namespace Go.Abs

/-- An operation's outcome. -/
def Step (X : Cx) (L : List Nat) (r : AV) (H' : List Ent) (q : Value) (w' : World) : Prop :=
  ∃ X' : Cx, X'.w = w' ∧ X'.H = H' ∧ X'.Ok ∧ Trans X X' ∧ VRel X' L r q

/-- A world that has one block more. -/
structure Grown (w w' : World) (o : Obj) : Prop where
  heap : w'.heap = w.heap.push o
  os : w'.os = w.os
  output : w'.output = w.output

theorem Grown.size {w w' : World} {o : Obj} (h : Grown w w' o) : w'.heap.size = w.heap.size + 1 := by rw [h.heap]; simp
theorem Grown.old {w w' : World} {o : Obj} (h : Grown w w' o) {b : Nat} (hb : b < w.heap.size) : w'.heap[b]? = w.heap[b]? := by
  rw [h.heap, Array.getElem?_push_lt hb, Array.getElem?_eq_getElem hb]
theorem Grown.new {w w' : World} {o : Obj} (h : Grown w w' o) : w'.heap[w.heap.size]? = some o := by rw [h.heap]; simp
theorem Grown.later {w w' : World} {o : Obj} (h : Grown w w' o) : Later w w' := ⟨by rw [h.size]; omega, h.os, h.output⟩
theorem grown_alloc (w : World) (o : Obj) : Grown w (w.alloc o) o := ⟨rfl, rfl, rfl⟩
theorem grown_drew (w : World) (o : Obj) : Grown w (w.drew.alloc o) o := ⟨rfl, rfl, rfl⟩

section
variable {X : Cx} {L : List Nat}

theorem News.append {fl fl' : Bool} {z : Nat} {xs ys : List (List AV)} {olds news : List Value} (ho : News X fl z xs olds) (hn : News X fl' z ys news) : News X (fl && fl') z (xs ++ ys) (olds ++ news) where
  len := by simp [ho.len, hn.len, Nat.add_mul]
  row := fun y hy => (List.mem_append.1 hy).elim (ho.row y) (hn.row y)
  one := fun v hv => (List.mem_append.1 hv).elim (ho.one v) (hn.one v)
  rel := fun i j y c hy hc => by
    rcases Nat.lt_or_ge i xs.length with hi | hi
    · rw [List.getElem?_append_left hi] at hy
      obtain ⟨u, h1, h2, h3⟩ := ho.rel i j y c hy hc
      exact ⟨u, by rw [List.getElem?_append_left (List.getElem?_eq_some_iff.1 h1).1]; exact h1, h2, fun h => h3 (by simp at h; exact h.1)⟩
    · rw [List.getElem?_append_right hi] at hy
      obtain ⟨u, h1, h2, h3⟩ := hn.rel _ j y c hy hc
      refine ⟨u, ?_, h2, fun h => h3 (by simp at h; exact h.2)⟩
      have he : i * z + j = olds.length + ((i - xs.length) * z + j) := by
        rw [ho.len, ← Nat.add_assoc, ← Nat.add_mul, Nat.add_sub_cancel' hi]
      rw [he, List.getElem?_append_right (by omega)]
      simpa using h1

theorem News.nil (z : Nat) : News X true z [] [] := ⟨by simp, by simp, by simp, by simp⟩

/-- A new slice that nobody writes. -/
theorem frozen_new (hX : X.Ok) {z : Nat} {xs : List (List AV)} {vs : List Value} (hn : News X true z xs vs) {w' : World} {arr : Array Value} {e : TypeId} (hg : Grown X.w w' (.cells arr e (0, 0)))
    (ha : ∀ (m : Nat) v, vs[m]? = some v → arr[m]? = some v) {f : Bool} {cap : Nat} (hc : xs.length ≤ cap) (hf : f = true → cap = xs.length) :
    Step X L (.sl f z xs) X.H (.slice (some ⟨X.w.heap.size, 0, none⟩) xs.length cap) w' := by
  have hs : Later X.w w' := hg.later
  have hk : ∀ b, b < X.w.heap.size → w'.heap[b]? = X.w.heap[b]? := fun b hb => hg.old hb
  refine ⟨X.at w', rfl, rfl, Cx.at_ok hX hs hk, Cx.at_trans hX hs hk, .frz ?_⟩
  refine .sl (fun i j => vs.getD (i * z + j) undef) rfl hc hf rfl (by simp only [Cx.at]; rw [hg.size]; omega) (fun hm => absurd (hX.bnd _ hm) (by simp)) hn.row
    (fun i j x c hx hc => ?_) (fun i j x c hx hc => ?_) (fun i j x c hx hc => ?_)
  · obtain ⟨u, h1, _⟩ := hn.rel i j x c hx hc
    refine (cell_of_blk hg.new).trans ?_
    simp only [Nat.zero_add, List.getD, h1, Option.getD_some]
    exact ha _ _ h1
  · obtain ⟨u, h1, _⟩ := hn.rel i j x c hx hc
    simp only [List.getD, h1, Option.getD_some]
    exact hn.one u (List.mem_of_getElem? h1)
  · obtain ⟨u, h1, _, h2⟩ := hn.rel i j x c hx hc
    simp only [List.getD, h1, Option.getD_some]
    exact (h2 rfl).trans (Cx.at_trans hX hs hk) hX

/-- What is asked of a block that an owned slice takes. -/
theorem ent_own (hX : X.Ok) {X' : Cx} (t : Trans X X') {fl : Bool} {z : Nat} (hz : 0 < z) {xs : List (List AV)} {vs : List Value} (hn : News X fl z xs vs) {arr : Array Value} {e : TypeId} {b cap vr : Nat}
    (hb : X'.w.heap[b]? = some (.cells arr e (0, 0))) (hM : 0 < cap → X'.M b) (hsz : arr.size = cap * z) (hone : ∀ (j : Nat) v, arr[j]? = some v → v.oneCell' = true)
    (ha : ∀ (m : Nat) v, vs[m]? = some v → arr[m]? = some v) (hc : xs.length ≤ cap) : EntRel X' (.own vr z xs) (.own (.slice (some ⟨b, 0, none⟩) xs.length cap)) := by
  refine ⟨hz, hn.row, ?_⟩
  cases cap with
  | zero =>
    have : xs = [] := List.eq_nil_of_length_eq_zero (by omega)
    subst this
    exact .inl ⟨_, rfl, rfl⟩
  | succ cap =>
    refine .inr ⟨b, cap, arr, e, rfl, hM (by omega), hb, hsz, hc, hone, fun i j x c hx hc => ?_⟩
    obtain ⟨u, h1, h2, _⟩ := hn.rel i j x c hx hc
    exact ⟨u, ha _ _ h1, h2.trans t hX⟩

theorem blk_own {b n cap : Nat} {b' : Nat} (h : (EC.own (.slice (some ⟨b, 0, none⟩) n cap)).blk = some b') : b' = b ∧ 0 < cap := by
  cases cap with
  | zero => simp [EC.blk] at h
  | succ cap => simp [EC.blk] at h; exact ⟨h.symm, by omega⟩

theorem subSl_whole {b n n' cap z : Nat} (h : n ≤ cap) : SubSl (.slice (some ⟨b, 0, none⟩) n' cap) 0 n z (.slice (some ⟨b, 0, none⟩) n cap) := by
  cases cap with
  | zero =>
    have : n = 0 := by omega
    subst this
    exact ⟨rfl, rfl, rfl⟩
  | succ cap => simp [SubSl]

/-- A new owned slice. -/
theorem own_new (hX : X.Ok) {fl : Bool} {z : Nat} (hz : 0 < z) {xs : List (List AV)} {vs : List Value} (hn : News X fl z xs vs) {w' : World} {arr : Array Value} {e : TypeId} (hg : Grown X.w w' (.cells arr e (0, 0)))
    (ha : ∀ (m : Nat) v, vs[m]? = some v → arr[m]? = some v) {cap : Nat} (hc : xs.length ≤ cap) (hsz : arr.size = cap * z) (hone : ∀ (j : Nat) v, arr[j]? = some v → v.oneCell' = true) :
    Step X L (.os X.H.length 0 xs.length 0) (X.H ++ [.own 0 z xs]) (.slice (some ⟨X.w.heap.size, 0, none⟩) xs.length cap) w' := by
  have hs : Later X.w w' := hg.later
  have hk : ∀ b, b < X.w.heap.size → w'.heap[b]? = X.w.heap[b]? := fun b hb => hg.old hb
  let e' := EC.own (.slice (some ⟨X.w.heap.size, 0, none⟩) xs.length cap)
  have hb1 : ∀ b, e'.blk = some b → X.w.heap.size ≤ b := fun b hb => by have := (blk_own hb).1; omega
  have hb2 : ∀ b, e'.blk = some b → b < w'.heap.size := fun b hb => by have := (blk_own hb).1; rw [hg.size]; omega
  have t := Cx.push_trans (h' := .own 0 z xs) hX hs hk hb1
  have hok := Cx.push_ok (h' := .own 0 z xs) hX hs hk hb1 hb2 fun t => by
    refine ent_own hX t hz hn (X' := X.push w' _ e') hg.new (fun hc => .inr ?_) hsz hone ha hc
    cases cap with
    | zero => omega
    | succ cap => rfl
  refine ⟨X.push w' (.own 0 z xs) e', rfl, rfl, hok, t, .os rfl (by simp [Cx.push, hX.len]) (.inl ⟨0, z, xs, by simp [Cx.push], Nat.le_refl _⟩) fun z' xs' hdr hH hE => ?_⟩
  have h1 : (X.E ++ [e'])[X.H.length]? = some e' := by rw [← hX.len]; simp
  simp only [Cx.push] at hH hE
  rw [h1] at hE
  injection hE with hE
  injection hE with hE
  subst hE
  exact subSl_whole hc

/-- An owned slice has moved, or was written where it lies. -/
theorem own_put (hX : X.Ok) {k vr z : Nat} {xs0 : List (List AV)} {hdr0 : Value} (hH : X.H[k]? = some (.own vr z xs0)) (hE : X.E[k]? = some (.own hdr0)) {xs : List (List AV)} {w' : World} {hdr : Value}
    (hs : Later X.w w') (hk : ∀ b, b < X.w.heap.size → (EC.own hdr0).blk ≠ some b → w'.heap[b]? = X.w.heap[b]?)
    (hb : ∀ b, (EC.own hdr).blk = some b → (EC.own hdr0).blk = some b ∨ X.w.heap.size ≤ b) (hlt : ∀ b, (EC.own hdr).blk = some b → b < w'.heap.size)
    (hr : Trans X (X.put w' k (.own hdr0) (.own (vr + 1) z xs) (.own hdr)) → EntRel (X.put w' k (.own hdr0) (.own (vr + 1) z xs) (.own hdr)) (.own (vr + 1) z xs) (.own hdr))
    {v : Value} (h1 : v.oneCell' = true) {n : Nat} (hsub : SubSl hdr 0 n z v) : Step X L (.os k 0 n (vr + 1)) (X.H.set k (.own (vr + 1) z xs)) v w' := by
  have hkE := (List.getElem?_eq_some_iff.1 hE).1
  have hkH := (List.getElem?_eq_some_iff.1 hH).1
  have ht : Turns (.own vr z xs0) (.own hdr0) (.own (vr + 1) z xs) (.own hdr) := ⟨Nat.le_succ _, rfl, fun h => by omega⟩
  refine ⟨X.put w' k (.own hdr0) (.own (vr + 1) z xs) (.own hdr), rfl, rfl, Cx.put_ok hX hH hE hs hk hb hlt ht hr, Cx.put_trans hX hH hE hs hk hb ht, ?_⟩
  refine .os h1 (by simpa [Cx.put] using hkE) (.inl ⟨vr + 1, z, xs, by simp [Cx.put, hkH], Nat.le_refl _⟩) fun z' xs' hdr' hH' hE' => ?_
  simp only [Cx.put, List.getElem?_set, hkH, if_true] at hH'
  simp only [Cx.put, List.getElem?_set, hkE, if_true] at hE'
  cases hH'
  cases hE'
  exact hsub
end

theorem zeroCells_one {zv : Array Value} (h : ∀ x ∈ zv.toList, x.oneCell' = true) (hs : 0 < zv.size) (n : Nat) : ∀ (j : Nat) v, (Builtin.zeroCells zv n)[j]? = some v → v.oneCell' = true := by
  intro j v hv
  simp only [Builtin.zeroCells, Array.getElem?_map] at hv
  obtain ⟨i, hi, rfl⟩ := Option.map_eq_some_iff.1 hv
  have hlt : i % zv.size < zv.size := Nat.mod_lt _ hs
  rw [getElem!_pos zv (i % zv.size) hlt]
  exact h _ (by simp)

section append
variable {P : Program} {T : TT} (hT : TOk P T) {X : Cx} {L : List Nat}
include hT

theorem aAppend_run (hX : X.Ok) {own : Bool} {b0 t t2 : Nat} {s x r : AV} {H' : List Ent} (h : aAppend T own b0 X.H t s x = some (r, H')) {u v : Value} (hs : VRel X L s u) (hx : VRel X L x v)
    {tys : Array TypeId} (h0 : tys[0]? = some t) (h1 : tys[1]? = some t2) (ht2 : (T.elem t2).isSome = true) (ty : TypeId) :
    ∃ q w', (Builtin.append_ tys ty #[u, v]).run P X.w = .ok q w' ∧ Step X L r H' q w' := by
  unfold aAppend at h
  obtain ⟨⟨z2, eb2⟩, he2⟩ := Option.isSome_iff_exists.1 ht2
  obtain ⟨e2, _, _, hu2, _⟩ := hT.elem _ _ _ he2
  split at h
  · cases h
  · rename_i z eb he
    obtain ⟨e, i, zv, hu, hi, hsz, hby, hzv, hzs, hzo⟩ := hT.elem _ _ _ he
    subst hsz
    subst hby
    split at h
    · cases h
    · rename_i py ys hel
      have hxs := elemsOf_at hX hel hx
      split at h
      · rename_i k len vr
        split at h
        · rename_i vr' z' xs hk
          split at h
          · rename_i hc
            obtain ⟨rfl, rfl, hle, hroom, _⟩ := hc
            cases h
            simp only [room, decide_eq_true_eq] at hroom
            obtain ⟨hb0, hroom⟩ := hroom
            obtain ⟨e', hE, hr⟩ := hX.hec hk
            cases e' <;> simp only [EntRel] at hr
            rename_i hdr
            obtain ⟨hz, hl, hr⟩ := hr
            obtain ⟨news, hnews, hnr⟩ := hxs.read (P := P) hz
            have hsn : snap X.H (.os k 0 len vr) = some (AV.pureLL (xs.take len), i.size, xs.take len) := by
              simp [snap, hk, hle]
            have hsat := (snap_at hX hsn hs).any
            obtain ⟨olds, holds, hor⟩ := hsat.read (P := P) hz
            have hlt : (xs.take len).length = len := by simp; omega
            obtain ⟨a2, c2, rfl, _, _⟩ := hxs
            have hsub := hs.os_inv.2.2.2 _ _ _ hk hE
            have hall := holds.append hnews
            have hlen : (xs.take len ++ ys).length = len + ys.length := by rw [List.length_append, hlt]
            have h63 : len + ys.length ≤ 9223372036854775807 := by
              have : len + ys.length ≤ (len + ys.length) * i.bytes := Nat.le_mul_of_pos_right _ hb0
              omega
            have holdl : olds.length = len * i.size := by rw [holds.len, hlt]
            -- growing: a new block
            have grow : ∀ (a : Option Addr) (cap : Nat), u = .slice a len cap → ∀ ncap, len + ys.length ≤ ncap →
                Step X L (.os k 0 (len + ys.length) (vr + 1)) (X.H.set k (.own (vr + 1) i.size (xs.take len ++ ys))) (.slice (some ⟨X.w.heap.size, 0, none⟩) (len + ys.length) ncap)
                  (X.w.drew.alloc (.cells (olds.toArray ++ news.toArray ++ Builtin.zeroCells zv.cells (ncap - (len + ys.length))) e)) := by
              intro a cap _ ncap hn
              have hg := grown_drew X.w (.cells (olds.toArray ++ news.toArray ++ Builtin.zeroCells zv.cells (ncap - (len + ys.length))) e)
              refine own_put (hdr := .slice (some ⟨X.w.heap.size, 0, none⟩) (xs.take len ++ ys).length ncap) hX hk hE hg.later (fun b hb _ => hg.old hb) (fun b hb => by have := (blk_own hb).1; omega)
                (fun b hb => by have := (blk_own hb).1; rw [hg.size]; omega) (fun t => ?_) (by rfl) ?_
              · refine ent_own hX t hz hall hg.new (fun hc => .inr ?_) ?_ ?_ ?_ (by rw [hlen]; exact hn)
                · cases ncap with
                  | zero => omega
                  | succ ncap => rfl
                · rw [Array.size_append, size_zeroCells, hzs, Array.size_append, List.size_toArray, List.size_toArray, holdl, hnews.len, ← Nat.add_mul, ← Nat.add_mul]
                  congr 1
                  omega
                · intro j v hv
                  rw [Array.getElem?_append] at hv
                  split at hv
                  · exact hall.one v (by
                      have := Array.mem_of_getElem? hv
                      simpa using this)
                  · exact zeroCells_one hzo (by omega) _ _ _ hv
                · intro m v hv
                  rw [Array.getElem?_append_left (by have := (List.getElem?_eq_some_iff.1 hv).1; simpa using this)]
                  simpa using hv
              · exact subSl_whole hn
            rcases hr with ⟨a, rfl, rfl⟩ | ⟨b, cap, arr, ty', rfl, hm, h2, h3, h5, h7, h6⟩
            · simp only [SubSl] at hsub
              obtain ⟨_, rfl, rfl⟩ := hsub
              rcases run_append_any (ty := ty) hu hi hzv hu2 h0 h1 X.w hnr (by simpa using hor) hroom h63 with ⟨hc, hrun⟩ | ⟨hc, ncap, hn, hrun⟩
              · have hys : ys = [] := List.eq_nil_of_length_eq_zero (by omega)
                subst hys
                have hne : news = [] := List.eq_nil_of_length_eq_zero (by rw [hnews.len]; simp)
                subst hne
                refine ⟨_, X.w, hrun X.w (by cases a <;> simp [storeCells]), ?_⟩
                refine own_put (hdr := .slice a 0 0) (v := .slice a 0 0) hX hk hE (.refl _) (fun _ _ _ => rfl) (fun b hb => .inl hb) (fun b hb => by cases a <;> simp [EC.blk] at hb) (fun t => ?_) rfl ?_
                · exact ⟨hz, by simp, .inl ⟨a, rfl, by simp⟩⟩
                · exact ⟨rfl, by simp, by simp⟩
              · exact ⟨_, _, hrun, grow _ _ rfl ncap hn⟩
            · simp only [SubSl, Nat.zero_mul, Nat.sub_zero] at hsub
              subst hsub
              rcases run_append_any (ty := ty) hu hi hzv hu2 h0 h1 X.w hnr (by rw [hlt] at hor; simpa using hor) hroom h63 with ⟨hc, hrun⟩ | ⟨hc, ncap, hn, hrun⟩
              · have hfit : len * i.size + news.length ≤ arr.size := by
                  rw [hnews.len, h3, ← Nat.add_mul]
                  exact Nat.mul_le_mul_right _ hc
                have hst := run_storeCells_at P b (len * i.size) ty' news 0 arr X.w h2 (by simpa using hfit) hnews.one
                simp only [Nat.add_zero] at hst
                refine ⟨_, _, hrun _ (by simp only [add_at, Nat.zero_add]; exact hst), ?_⟩
                have hset := setRow_heap X.w b arr (arr.toList.take (len * i.size) ++ news ++ arr.toList.drop (len * i.size + news.length)).toArray ty' (0, 0) h2
                have hbl := (Array.getElem?_eq_some_iff.1 h2).1
                have holds2 : News X false i.size (xs.take len) (arr.toList.take (len * i.size)) := by
                  refine ⟨by rw [hlt, List.length_take, Array.length_toList, Nat.min_eq_left]; omega, holds.row, fun v hv => ?_, fun i' j y c hy hc => ?_⟩
                  · obtain ⟨m, hm'⟩ := List.mem_iff_getElem?.1 (List.mem_of_mem_take hv)
                    exact h7 m v (by simpa using hm')
                  · rw [List.getElem?_take] at hy
                    split at hy
                    · rename_i hi'
                      obtain ⟨w8, h8, h9⟩ := h6 i' j y c hy hc
                      refine ⟨w8, ?_, h9, by simp⟩
                      have hj := (List.getElem?_eq_some_iff.1 hc).1
                      rw [hl y (List.mem_of_getElem? hy)] at hj
                      have : (i' + 1) * i.size ≤ len * i.size := Nat.mul_le_mul_right _ hi'
                      rw [Nat.add_mul] at this
                      rw [List.getElem?_take, if_pos (by omega)]
                      simpa using h8
                    · cases hy
                refine own_put (hdr := .slice (some ⟨b, 0, none⟩) (xs.take len ++ ys).length (cap + 1)) hX hk hE (later_setRow X.w b _) (fun b' hb' hne => setRow_other X.w b b' _ (fun he => hne (by simp [EC.blk, he])))
                  (fun b' hb' => .inl (by simpa [EC.blk] using hb')) (fun b' hb' => by simp [EC.blk] at hb'; subst hb'; simpa [World.setRow] using hbl) (fun t => ?_) (by rfl) (by simp [SubSl])
                refine ent_own hX t hz (holds2.append hnews) hset (fun _ => .inr rfl) ?_ ?_ ?_ (by rw [hlen]; exact hc)
                · simp only [List.size_toArray, List.length_append, List.length_take, List.length_drop, Array.length_toList]
                  omega
                · intro j v hv
                  simp only [List.getElem?_toArray] at hv
                  have hmem := List.mem_of_getElem? hv
                  rcases List.mem_append.1 hmem with hmem | hmem
                  · exact (holds2.append hnews).one v hmem
                  · obtain ⟨m, hm'⟩ := List.mem_iff_getElem?.1 (List.mem_of_mem_drop hmem)
                    exact h7 m v (by simpa using hm')
                · intro m v hv
                  simp only [List.getElem?_toArray]
                  rw [List.getElem?_append_left (List.getElem?_eq_some_iff.1 hv).1]
                  exact hv
              · exact ⟨_, _, hrun, grow _ _ rfl ncap hn⟩
          · cases h
        · cases h
      · rename_i s' hns
        split at h
        · rename_i z' xs hbase
          split at h
          · rename_i hc
            obtain ⟨rfl, hz, hroom⟩ := hc
            simp only [room, decide_eq_true_eq] at hroom
            obtain ⟨hb0, hroom⟩ := hroom
            have hsat : SlAt X true (fun _ => True) i.size xs u ∧ ∃ a, u = .slice a xs.length xs.length := by
              split at hbase
              · rename_i hnil
                cases hbase
                unfold isNilSl at hnil
                split at hnil
                · rw [hs.sc_inv]
                  exact ⟨⟨none, 0, rfl, Nat.le_refl _, fun h => absurd rfl h⟩, none, rfl⟩
                · cases hnil
              · split at hbase
                · cases hbase
                  obtain ⟨a, cap, rfl, _, hf, _⟩ := hs.sl_inv
                  exact ⟨(snap_at hX rfl hs).any, a, by rw [hf rfl]⟩
                · cases hbase
            obtain ⟨hsat, a, rfl⟩ := hsat
            obtain ⟨news, hnews, hnr⟩ := hxs.read (P := P) hz
            obtain ⟨olds, holds, hor⟩ := hsat.read (P := P) hz
            obtain ⟨a2, c2, rfl, _, _⟩ := hxs
            have hall := holds.append hnews
            have h63 : xs.length + ys.length ≤ 9223372036854775807 := by
              have : xs.length + ys.length ≤ (xs.length + ys.length) * i.bytes := Nat.le_mul_of_pos_right _ hb0
              omega
            have harr : ∀ ncap, xs.length + ys.length ≤ ncap → (olds.toArray ++ news.toArray ++ Builtin.zeroCells zv.cells (ncap - (xs.length + ys.length))).size = ncap * i.size := by
              intro ncap hn
              rw [Array.size_append, size_zeroCells, hzs, Array.size_append, List.size_toArray, List.size_toArray, holds.len, hnews.len, ← Nat.add_mul, ← Nat.add_mul]
              congr 1
              omega
            have hone : ∀ ncap, ∀ (j : Nat) v, (olds.toArray ++ news.toArray ++ Builtin.zeroCells zv.cells (ncap - (xs.length + ys.length)))[j]? = some v → v.oneCell' = true := by
              intro ncap j v hv
              rw [Array.getElem?_append] at hv
              split at hv
              · exact hall.one v (by
                  have := Array.mem_of_getElem? hv
                  simpa using this)
              · exact zeroCells_one hzo (by omega) _ _ _ hv
            have hget : ∀ ncap, ∀ (m : Nat) v, (olds ++ news)[m]? = some v → (olds.toArray ++ news.toArray ++ Builtin.zeroCells zv.cells (ncap - (xs.length + ys.length)))[m]? = some v := by
              intro ncap m v hv
              rw [Array.getElem?_append_left (by have := (List.getElem?_eq_some_iff.1 hv).1; simpa using this)]
              simpa using hv
            have hlen : (xs ++ ys).length = xs.length + ys.length := List.length_append
            rcases run_append_any (ty := ty) hu hi hzv hu2 h0 h1 X.w hnr hor hroom h63 with ⟨hc, hrun⟩ | ⟨hc, ncap, hn, hrun⟩
            · have hys : ys = [] := List.eq_nil_of_length_eq_zero (by omega)
              subst hys
              have hne : news = [] := List.eq_nil_of_length_eq_zero (by rw [hnews.len]; simp)
              subst hne
              refine ⟨_, X.w, hrun X.w (by cases a <;> simp [storeCells]), ?_⟩
              split at h
              · split at h
                · cases h
                  -- an owned slice that is empty
                  have t := Cx.push_trans (X := X) (w := X.w) (h' := .own 0 i.size []) (e' := .own (.slice a 0 0)) hX (.refl _) (fun _ _ => rfl) (fun b hb => by cases a <;> simp [EC.blk] at hb)
                  have hok := Cx.push_ok (X := X) (w := X.w) (h' := .own 0 i.size []) (e' := .own (.slice a 0 0)) hX (.refl _) (fun _ _ => rfl) (fun b hb => by cases a <;> simp [EC.blk] at hb)
                    (fun b hb => by cases a <;> simp [EC.blk] at hb) (fun t => ⟨hz, by simp, .inl ⟨a, rfl, rfl⟩⟩)
                  refine ⟨X.push X.w (.own 0 i.size []) (.own (.slice a 0 0)), rfl, rfl, hok, t, .os rfl (by simp [Cx.push, hX.len]) (.inl ⟨0, i.size, [], by simp [Cx.push], Nat.le_refl _⟩) fun z' xs' hdr hH hE => ?_⟩
                  have h1 : (X.E ++ [EC.own (.slice a 0 0)])[X.H.length]? = some (EC.own (.slice a 0 0)) := by rw [← hX.len]; simp
                  simp only [Cx.push] at hH hE
                  rw [h1] at hE
                  injection hE with hE
                  injection hE with hE
                  subst hE
                  exact ⟨rfl, rfl, rfl⟩
                · cases h
              · split at h
                case isFalse => cases h
                cases h
                refine ⟨X, rfl, rfl, hX, Trans.refl hX, ?_⟩
                rw [List.append_nil]
                split at hbase
                · rename_i hnil
                  cases hbase
                  unfold isNilSl at hnil
                  split at hnil
                  · exact .frz (.slE (by simp))
                  · cases hnil
                · split at hbase
                  · cases hbase
                    have hf : FRel X.w X.M (.sl true i.size xs) (.slice a xs.length xs.length) := hs.pure rfl
                    cases hf with
                    | slE hf => exact .frz (.slE (by simp))
                    | sl g h1 h2 h3 h4 h5 h6 h7 h8 h9 h10 => exact .frz (.sl g h1 h2 (by simp) h4 h5 h6 h7 h8 h9 h10)
                  · cases hbase
            · refine ⟨_, _, hrun, ?_⟩
              split at h
              · split at h
                · cases h
                  simp only [List.length_nil, Nat.zero_add] at hn ⊢
                  have := own_new (L := L) hX hz hnews (grown_drew X.w (.cells (olds.toArray ++ news.toArray ++ Builtin.zeroCells zv.cells (ncap - ([].length + ys.length))) e)) (fun m v hv => hget ncap m v (by
                    have : olds = [] := List.eq_nil_of_length_eq_zero (by rw [holds.len]; simp)
                    rw [this]; exact hv)) hn (harr ncap (by simpa using hn)) (hone ncap)
                  simpa using this
                · cases h
              · split at h
                case isFalse => cases h
                rename_i hpy
                cases h
                rw [← hlen]
                rw [← hlen] at hn
                rw [hpy] at hall
                exact frozen_new hX hall (grown_drew X.w _) (by rw [hlen]; exact hget ncap) hn (by simp)
          · cases h
        · cases h
end append
end Go.Abs
