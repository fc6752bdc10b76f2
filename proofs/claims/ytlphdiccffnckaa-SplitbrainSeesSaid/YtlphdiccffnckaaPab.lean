/- Texts put together: Opn, Opq, Opr, Ops, Opt. -/
import Derived.Test.YtlphdiccffnckaaPaa

/- Appending: what it leaves. -/
namespace Go.Abs

/-- An operation's outcome. -/
def Step (X : Cx) (L : List Nat) (r : AV) (H' : List Ent) (q : Value) (w' : World) : Prop :=
  ∃ X' : Cx, X'.w = w' ∧ X'.H = H' ∧ X'.Ok ∧ Trans X X' ∧ VRel X' L r q

/-- A world that has one block more. -/
structure Grown (w w' : World) (o : Obj) : Prop where
  heap : w'.heap = w.heap.push o
  os : w'.os = w.os
  output : w'.output = w.output

theorem Grown.size {w w' : World} {o : Obj} (h : Grown w w' o) : w'.heap.size = w.heap.size + 1 := by rw [h.heap]; simp
theorem Grown.old {w w' : World} {o : Obj} (h : Grown w w' o) {b : Nat} (hb : b < w.heap.size) : w'.heap[b]? = w.heap[b]? := by
  rw [h.heap, Array.getElem?_push_lt hb, Array.getElem?_eq_getElem hb]
theorem Grown.new {w w' : World} {o : Obj} (h : Grown w w' o) : w'.heap[w.heap.size]? = some o := by rw [h.heap]; simp
theorem Grown.later {w w' : World} {o : Obj} (h : Grown w w' o) : Later w w' := ⟨by rw [h.size]; omega, h.os, h.output⟩
theorem grown_alloc (w : World) (o : Obj) : Grown w (w.alloc o) o := ⟨rfl, rfl, rfl⟩
theorem grown_drew (w : World) (o : Obj) : Grown w (w.drew.alloc o) o := ⟨rfl, rfl, rfl⟩

section
variable {X : Cx} {L : List Nat}

theorem News.append {fl fl' : Bool} {z : Nat} {xs ys : List (List AV)} {olds news : List Value} (ho : News X fl z xs olds) (hn : News X fl' z ys news) : News X (fl && fl') z (xs ++ ys) (olds ++ news) where
  len := by simp [ho.len, hn.len, Nat.add_mul]
  row := fun y hy => (List.mem_append.1 hy).elim (ho.row y) (hn.row y)
  one := fun v hv => (List.mem_append.1 hv).elim (ho.one v) (hn.one v)
  rel := fun i j y c hy hc => by
    rcases Nat.lt_or_ge i xs.length with hi | hi
    · rw [List.getElem?_append_left hi] at hy
      obtain ⟨u, h1, h2, h3⟩ := ho.rel i j y c hy hc
      exact ⟨u, by rw [List.getElem?_append_left (List.getElem?_eq_some_iff.1 h1).1]; exact h1, h2, fun h => h3 (by simp at h; exact h.1)⟩
    · rw [List.getElem?_append_right hi] at hy
      obtain ⟨u, h1, h2, h3⟩ := hn.rel _ j y c hy hc
      refine ⟨u, ?_, h2, fun h => h3 (by simp at h; exact h.2)⟩
      have he : i * z + j = olds.length + ((i - xs.length) * z + j) := by
        rw [ho.len, ← Nat.add_assoc, ← Nat.add_mul, Nat.add_sub_cancel' hi]
      rw [he, List.getElem?_append_right (by omega)]
      simpa using h1

theorem News.nil (z : Nat) : News X true z [] [] := ⟨by simp, by simp, by simp, by simp⟩

/-- A new slice that nobody writes. -/
theorem frozen_new (hX : X.Ok) {z : Nat} {xs : List (List AV)} {vs : List Value} (hn : News X true z xs vs) {w' : World} {arr : Array Value} {e : TypeId} (hg : Grown X.w w' (.cells arr e (0, 0)))
    (ha : ∀ (m : Nat) v, vs[m]? = some v → arr[m]? = some v) {f : Bool} {cap : Nat} (hc : xs.length ≤ cap) (hf : f = true → cap = xs.length) :
    Step X L (.sl f z xs) X.H (.slice (some ⟨X.w.heap.size, 0, none⟩) xs.length cap) w' := by
  have hs : Later X.w w' := hg.later
  have hk : ∀ b, b < X.w.heap.size → w'.heap[b]? = X.w.heap[b]? := fun b hb => hg.old hb
  refine ⟨X.at w', rfl, rfl, Cx.at_ok hX hs hk, Cx.at_trans hX hs hk, .frz ?_⟩
  refine .sl (fun i j => vs.getD (i * z + j) undef) rfl hc hf rfl (by simp only [Cx.at]; rw [hg.size]; omega) (fun hm => absurd (hX.bnd _ hm) (by simp)) hn.row
    (fun i j x c hx hc => ?_) (fun i j x c hx hc => ?_) (fun i j x c hx hc => ?_)
  · obtain ⟨u, h1, _⟩ := hn.rel i j x c hx hc
    refine (cell_of_blk hg.new).trans ?_
    simp only [Nat.zero_add, List.getD, h1, Option.getD_some]
    exact ha _ _ h1
  · obtain ⟨u, h1, _⟩ := hn.rel i j x c hx hc
    simp only [List.getD, h1, Option.getD_some]
    exact hn.one u (List.mem_of_getElem? h1)
  · obtain ⟨u, h1, _, h2⟩ := hn.rel i j x c hx hc
    simp only [List.getD, h1, Option.getD_some]
    exact (h2 rfl).trans (Cx.at_trans hX hs hk) hX

/-- What is asked of a block that an owned slice takes. -/
theorem ent_own (hX : X.Ok) {X' : Cx} (t : Trans X X') {fl : Bool} {z : Nat} (hz : 0 < z) {xs : List (List AV)} {vs : List Value} (hn : News X fl z xs vs) {arr : Array Value} {e : TypeId} {b cap vr : Nat}
    (hb : X'.w.heap[b]? = some (.cells arr e (0, 0))) (hM : 0 < cap → X'.M b) (hsz : arr.size = cap * z) (hone : ∀ (j : Nat) v, arr[j]? = some v → v.oneCell' = true)
    (ha : ∀ (m : Nat) v, vs[m]? = some v → arr[m]? = some v) (hc : xs.length ≤ cap) : EntRel X' (.own vr z xs) (.own (.slice (some ⟨b, 0, none⟩) xs.length cap)) := by
  refine ⟨hz, hn.row, ?_⟩
  cases cap with
  | zero =>
    have : xs = [] := List.eq_nil_of_length_eq_zero (by omega)
    subst this
    exact .inl ⟨_, rfl, rfl⟩
  | succ cap =>
    refine .inr ⟨b, cap, arr, e, rfl, hM (by omega), hb, hsz, hc, hone, fun i j x c hx hc => ?_⟩
    obtain ⟨u, h1, h2, _⟩ := hn.rel i j x c hx hc
    exact ⟨u, ha _ _ h1, h2.trans t hX⟩

theorem blk_own {b n cap : Nat} {b' : Nat} (h : (EC.own (.slice (some ⟨b, 0, none⟩) n cap)).blk = some b') : b' = b ∧ 0 < cap := by
  cases cap with
  | zero => simp [EC.blk] at h
  | succ cap => simp [EC.blk] at h; exact ⟨h.symm, by omega⟩

theorem subSl_whole {b n n' cap z : Nat} (h : n ≤ cap) : SubSl (.slice (some ⟨b, 0, none⟩) n' cap) 0 n z (.slice (some ⟨b, 0, none⟩) n cap) := by
  cases cap with
  | zero =>
    have : n = 0 := by omega
    subst this
    exact ⟨rfl, rfl, rfl⟩
  | succ cap => simp [SubSl]

/-- A new owned slice. -/
theorem own_new (hX : X.Ok) {fl : Bool} {z : Nat} (hz : 0 < z) {xs : List (List AV)} {vs : List Value} (hn : News X fl z xs vs) {w' : World} {arr : Array Value} {e : TypeId} (hg : Grown X.w w' (.cells arr e (0, 0)))
    (ha : ∀ (m : Nat) v, vs[m]? = some v → arr[m]? = some v) {cap : Nat} (hc : xs.length ≤ cap) (hsz : arr.size = cap * z) (hone : ∀ (j : Nat) v, arr[j]? = some v → v.oneCell' = true) :
    Step X L (.os X.H.length 0 xs.length 0) (X.H ++ [.own 0 z xs]) (.slice (some ⟨X.w.heap.size, 0, none⟩) xs.length cap) w' := by
  have hs : Later X.w w' := hg.later
  have hk : ∀ b, b < X.w.heap.size → w'.heap[b]? = X.w.heap[b]? := fun b hb => hg.old hb
  let e' := EC.own (.slice (some ⟨X.w.heap.size, 0, none⟩) xs.length cap)
  have hb1 : ∀ b, e'.blk = some b → X.w.heap.size ≤ b := fun b hb => by have := (blk_own hb).1; omega
  have hb2 : ∀ b, e'.blk = some b → b < w'.heap.size := fun b hb => by have := (blk_own hb).1; rw [hg.size]; omega
  have t := Cx.push_trans (h' := .own 0 z xs) hX hs hk hb1
  have hok := Cx.push_ok (h' := .own 0 z xs) hX hs hk hb1 hb2 fun t => by
    refine ent_own hX t hz hn (X' := X.push w' _ e') hg.new (fun hc => .inr ?_) hsz hone ha hc
    cases cap with
    | zero => omega
    | succ cap => rfl
  refine ⟨X.push w' (.own 0 z xs) e', rfl, rfl, hok, t, .os rfl (by simp [Cx.push, hX.len]) (.inl ⟨0, z, xs, by simp [Cx.push], Nat.le_refl _⟩) fun z' xs' hdr hH hE => ?_⟩
  have h1 : (X.E ++ [e'])[X.H.length]? = some e' := by rw [← hX.len]; simp
  simp only [Cx.push] at hH hE
  rw [h1] at hE
  injection hE with hE
  injection hE with hE
  subst hE
  exact subSl_whole hc

/-- An owned slice has moved, or was written where it lies. -/
theorem own_put (hX : X.Ok) {k vr z : Nat} {xs0 : List (List AV)} {hdr0 : Value} (hH : X.H[k]? = some (.own vr z xs0)) (hE : X.E[k]? = some (.own hdr0)) {xs : List (List AV)} {w' : World} {hdr : Value}
    (hs : Later X.w w') (hk : ∀ b, b < X.w.heap.size → (EC.own hdr0).blk ≠ some b → w'.heap[b]? = X.w.heap[b]?)
    (hb : ∀ b, (EC.own hdr).blk = some b → (EC.own hdr0).blk = some b ∨ X.w.heap.size ≤ b) (hlt : ∀ b, (EC.own hdr).blk = some b → b < w'.heap.size)
    (hr : Trans X (X.put w' k (.own hdr0) (.own (vr + 1) z xs) (.own hdr)) → EntRel (X.put w' k (.own hdr0) (.own (vr + 1) z xs) (.own hdr)) (.own (vr + 1) z xs) (.own hdr))
    {v : Value} (h1 : v.oneCell' = true) {n : Nat} (hsub : SubSl hdr 0 n z v) : Step X L (.os k 0 n (vr + 1)) (X.H.set k (.own (vr + 1) z xs)) v w' := by
  have hkE := (List.getElem?_eq_some_iff.1 hE).1
  have hkH := (List.getElem?_eq_some_iff.1 hH).1
  have ht : Turns (.own vr z xs0) (.own hdr0) (.own (vr + 1) z xs) (.own hdr) := ⟨Nat.le_succ _, rfl, fun h => by omega⟩
  refine ⟨X.put w' k (.own hdr0) (.own (vr + 1) z xs) (.own hdr), rfl, rfl, Cx.put_ok hX hH hE hs hk hb hlt ht hr, Cx.put_trans hX hH hE hs hk hb ht, ?_⟩
  refine .os h1 (by simpa [Cx.put] using hkE) (.inl ⟨vr + 1, z, xs, by simp [Cx.put, hkH], Nat.le_refl _⟩) fun z' xs' hdr' hH' hE' => ?_
  simp only [Cx.put, List.getElem?_set, hkH, if_true] at hH'
  simp only [Cx.put, List.getElem?_set, hkE, if_true] at hE'
  cases hH'
  cases hE'
  exact hsub
end

theorem zeroCells_one {zv : Array Value} (h : ∀ x ∈ zv.toList, x.oneCell' = true) (hs : 0 < zv.size) (n : Nat) : ∀ (j : Nat) v, (Builtin.zeroCells zv n)[j]? = some v → v.oneCell' = true := by
  intro j v hv
  simp only [Builtin.zeroCells, Array.getElem?_map] at hv
  obtain ⟨i, hi, rfl⟩ := Option.map_eq_some_iff.1 hv
  have hlt : i % zv.size < zv.size := Nat.mod_lt _ hs
  rw [getElem!_pos zv (i % zv.size) hlt]
  exact h _ (by simp)

section append
variable {P : Program} {T : TT} (hT : TOk P T) {X : Cx} {L : List Nat}
include hT

theorem aAppend_run (hX : X.Ok) {own : Bool} {b0 t t2 : Nat} {s x r : AV} {H' : List Ent} (h : aAppend T own b0 X.H t s x = some (r, H')) {u v : Value} (hs : VRel X L s u) (hx : VRel X L x v)
    {tys : Array TypeId} (h0 : tys[0]? = some t) (h1 : tys[1]? = some t2) (ht2 : (T.elem t2).isSome = true) (ty : TypeId) :
    ∃ q w', (Builtin.append_ tys ty #[u, v]).run P X.w = .ok q w' ∧ Step X L r H' q w' := by
  unfold aAppend at h
  obtain ⟨⟨z2, eb2⟩, he2⟩ := Option.isSome_iff_exists.1 ht2
  obtain ⟨e2, _, _, hu2, _⟩ := hT.elem _ _ _ he2
  split at h
  · cases h
  · rename_i z eb he
    obtain ⟨e, i, zv, hu, hi, hsz, hby, hzv, hzs, hzo⟩ := hT.elem _ _ _ he
    subst hsz
    subst hby
    split at h
    · cases h
    · rename_i py ys hel
      have hxs := elemsOf_at hX hel hx
      split at h
      · rename_i k len vr
        split at h
        · rename_i vr' z' xs hk
          split at h
          · rename_i hc
            obtain ⟨rfl, rfl, hle, hroom, _⟩ := hc
            cases h
            simp only [room, decide_eq_true_eq] at hroom
            obtain ⟨hb0, hroom⟩ := hroom
            obtain ⟨e', hE, hr⟩ := hX.hec hk
            cases e' <;> simp only [EntRel] at hr
            rename_i hdr
            obtain ⟨hz, hl, hr⟩ := hr
            obtain ⟨news, hnews, hnr⟩ := hxs.read (P := P) hz
            have hsn : snap X.H (.os k 0 len vr) = some (AV.pureLL (xs.take len), i.size, xs.take len) := by
              simp [snap, hk, hle]
            have hsat := (snap_at hX hsn hs).any
            obtain ⟨olds, holds, hor⟩ := hsat.read (P := P) hz
            have hlt : (xs.take len).length = len := by simp; omega
            obtain ⟨a2, c2, rfl, _, _⟩ := hxs
            have hsub := hs.os_inv.2.2.2 _ _ _ hk hE
            have hall := holds.append hnews
            have hlen : (xs.take len ++ ys).length = len + ys.length := by rw [List.length_append, hlt]
            have h63 : len + ys.length ≤ 9223372036854775807 := by
              have : len + ys.length ≤ (len + ys.length) * i.bytes := Nat.le_mul_of_pos_right _ hb0
              omega
            have holdl : olds.length = len * i.size := by rw [holds.len, hlt]
            -- growing: a new block
            have grow : ∀ (a : Option Addr) (cap : Nat), u = .slice a len cap → ∀ ncap, len + ys.length ≤ ncap →
                Step X L (.os k 0 (len + ys.length) (vr + 1)) (X.H.set k (.own (vr + 1) i.size (xs.take len ++ ys))) (.slice (some ⟨X.w.heap.size, 0, none⟩) (len + ys.length) ncap)
                  (X.w.drew.alloc (.cells (olds.toArray ++ news.toArray ++ Builtin.zeroCells zv.cells (ncap - (len + ys.length))) e)) := by
              intro a cap _ ncap hn
              have hg := grown_drew X.w (.cells (olds.toArray ++ news.toArray ++ Builtin.zeroCells zv.cells (ncap - (len + ys.length))) e)
              refine own_put (hdr := .slice (some ⟨X.w.heap.size, 0, none⟩) (xs.take len ++ ys).length ncap) hX hk hE hg.later (fun b hb _ => hg.old hb) (fun b hb => by have := (blk_own hb).1; omega)
                (fun b hb => by have := (blk_own hb).1; rw [hg.size]; omega) (fun t => ?_) (by rfl) ?_
              · refine ent_own hX t hz hall hg.new (fun hc => .inr ?_) ?_ ?_ ?_ (by rw [hlen]; exact hn)
                · cases ncap with
                  | zero => omega
                  | succ ncap => rfl
                · rw [Array.size_append, size_zeroCells, hzs, Array.size_append, List.size_toArray, List.size_toArray, holdl, hnews.len, ← Nat.add_mul, ← Nat.add_mul]
                  congr 1
                  omega
                · intro j v hv
                  rw [Array.getElem?_append] at hv
                  split at hv
                  · exact hall.one v (by
                      have := Array.mem_of_getElem? hv
                      simpa using this)
                  · exact zeroCells_one hzo (by omega) _ _ _ hv
                · intro m v hv
                  rw [Array.getElem?_append_left (by have := (List.getElem?_eq_some_iff.1 hv).1; simpa using this)]
                  simpa using hv
              · exact subSl_whole hn
            rcases hr with ⟨a, rfl, rfl⟩ | ⟨b, cap, arr, ty', rfl, hm, h2, h3, h5, h7, h6⟩
            · simp only [SubSl] at hsub
              obtain ⟨_, rfl, rfl⟩ := hsub
              rcases run_append_any (ty := ty) hu hi hzv hu2 h0 h1 X.w hnr (by simpa using hor) hroom h63 with ⟨hc, hrun⟩ | ⟨hc, ncap, hn, hrun⟩
              · have hys : ys = [] := List.eq_nil_of_length_eq_zero (by omega)
                subst hys
                have hne : news = [] := List.eq_nil_of_length_eq_zero (by rw [hnews.len]; simp)
                subst hne
                refine ⟨_, X.w, hrun X.w (by cases a <;> simp [storeCells]), ?_⟩
                refine own_put (hdr := .slice a 0 0) (v := .slice a 0 0) hX hk hE (.refl _) (fun _ _ _ => rfl) (fun b hb => .inl hb) (fun b hb => by cases a <;> simp [EC.blk] at hb) (fun t => ?_) rfl ?_
                · exact ⟨hz, by simp, .inl ⟨a, rfl, by simp⟩⟩
                · exact ⟨rfl, by simp, by simp⟩
              · exact ⟨_, _, hrun, grow _ _ rfl ncap hn⟩
            · simp only [SubSl, Nat.zero_mul, Nat.sub_zero] at hsub
              subst hsub
              rcases run_append_any (ty := ty) hu hi hzv hu2 h0 h1 X.w hnr (by rw [hlt] at hor; simpa using hor) hroom h63 with ⟨hc, hrun⟩ | ⟨hc, ncap, hn, hrun⟩
              · have hfit : len * i.size + news.length ≤ arr.size := by
                  rw [hnews.len, h3, ← Nat.add_mul]
                  exact Nat.mul_le_mul_right _ hc
                have hst := run_storeCells_at P b (len * i.size) ty' news 0 arr X.w h2 (by simpa using hfit) hnews.one
                simp only [Nat.add_zero] at hst
                refine ⟨_, _, hrun _ (by simp only [add_at, Nat.zero_add]; exact hst), ?_⟩
                have hset := setRow_heap X.w b arr (arr.toList.take (len * i.size) ++ news ++ arr.toList.drop (len * i.size + news.length)).toArray ty' (0, 0) h2
                have hbl := (Array.getElem?_eq_some_iff.1 h2).1
                have holds2 : News X false i.size (xs.take len) (arr.toList.take (len * i.size)) := by
                  refine ⟨by rw [hlt, List.length_take, Array.length_toList, Nat.min_eq_left]; omega, holds.row, fun v hv => ?_, fun i' j y c hy hc => ?_⟩
                  · obtain ⟨m, hm'⟩ := List.mem_iff_getElem?.1 (List.mem_of_mem_take hv)
                    exact h7 m v (by simpa using hm')
                  · rw [List.getElem?_take] at hy
                    split at hy
                    · rename_i hi'
                      obtain ⟨w8, h8, h9⟩ := h6 i' j y c hy hc
                      refine ⟨w8, ?_, h9, by simp⟩
                      have hj := (List.getElem?_eq_some_iff.1 hc).1
                      rw [hl y (List.mem_of_getElem? hy)] at hj
                      have : (i' + 1) * i.size ≤ len * i.size := Nat.mul_le_mul_right _ hi'
                      rw [Nat.add_mul] at this
                      rw [List.getElem?_take, if_pos (by omega)]
                      simpa using h8
                    · cases hy
                refine own_put (hdr := .slice (some ⟨b, 0, none⟩) (xs.take len ++ ys).length (cap + 1)) hX hk hE (later_setRow X.w b _) (fun b' hb' hne => setRow_other X.w b b' _ (fun he => hne (by simp [EC.blk, he])))
                  (fun b' hb' => .inl (by simpa [EC.blk] using hb')) (fun b' hb' => by simp [EC.blk] at hb'; subst hb'; simpa [World.setRow] using hbl) (fun t => ?_) (by rfl) (by simp [SubSl])
                refine ent_own hX t hz (holds2.append hnews) hset (fun _ => .inr rfl) ?_ ?_ ?_ (by rw [hlen]; exact hc)
                · simp only [List.size_toArray, List.length_append, List.length_take, List.length_drop, Array.length_toList]
                  omega
                · intro j v hv
                  simp only [List.getElem?_toArray] at hv
                  have hmem := List.mem_of_getElem? hv
                  rcases List.mem_append.1 hmem with hmem | hmem
                  · exact (holds2.append hnews).one v hmem
                  · obtain ⟨m, hm'⟩ := List.mem_iff_getElem?.1 (List.mem_of_mem_drop hmem)
                    exact h7 m v (by simpa using hm')
                · intro m v hv
                  simp only [List.getElem?_toArray]
                  rw [List.getElem?_append_left (List.getElem?_eq_some_iff.1 hv).1]
                  exact hv
              · exact ⟨_, _, hrun, grow _ _ rfl ncap hn⟩
          · cases h
        · cases h
      · rename_i s' hns
        split at h
        · rename_i z' xs hbase
          split at h
          · rename_i hc
            obtain ⟨rfl, hz, hroom⟩ := hc
            simp only [room, decide_eq_true_eq] at hroom
            obtain ⟨hb0, hroom⟩ := hroom
            have hsat : SlAt X true (fun _ => True) i.size xs u ∧ ∃ a, u = .slice a xs.length xs.length := by
              split at hbase
              · rename_i hnil
                cases hbase
                unfold isNilSl at hnil
                split at hnil
                · rw [hs.sc_inv]
                  exact ⟨⟨none, 0, rfl, Nat.le_refl _, fun h => absurd rfl h⟩, none, rfl⟩
                · cases hnil
              · split at hbase
                · cases hbase
                  obtain ⟨a, cap, rfl, _, hf, _⟩ := hs.sl_inv
                  exact ⟨(snap_at hX rfl hs).any, a, by rw [hf rfl]⟩
                · cases hbase
            obtain ⟨hsat, a, rfl⟩ := hsat
            obtain ⟨news, hnews, hnr⟩ := hxs.read (P := P) hz
            obtain ⟨olds, holds, hor⟩ := hsat.read (P := P) hz
            obtain ⟨a2, c2, rfl, _, _⟩ := hxs
            have hall := holds.append hnews
            have h63 : xs.length + ys.length ≤ 9223372036854775807 := by
              have : xs.length + ys.length ≤ (xs.length + ys.length) * i.bytes := Nat.le_mul_of_pos_right _ hb0
              omega
            have harr : ∀ ncap, xs.length + ys.length ≤ ncap → (olds.toArray ++ news.toArray ++ Builtin.zeroCells zv.cells (ncap - (xs.length + ys.length))).size = ncap * i.size := by
              intro ncap hn
              rw [Array.size_append, size_zeroCells, hzs, Array.size_append, List.size_toArray, List.size_toArray, holds.len, hnews.len, ← Nat.add_mul, ← Nat.add_mul]
              congr 1
              omega
            have hone : ∀ ncap, ∀ (j : Nat) v, (olds.toArray ++ news.toArray ++ Builtin.zeroCells zv.cells (ncap - (xs.length + ys.length)))[j]? = some v → v.oneCell' = true := by
              intro ncap j v hv
              rw [Array.getElem?_append] at hv
              split at hv
              · exact hall.one v (by
                  have := Array.mem_of_getElem? hv
                  simpa using this)
              · exact zeroCells_one hzo (by omega) _ _ _ hv
            have hget : ∀ ncap, ∀ (m : Nat) v, (olds ++ news)[m]? = some v → (olds.toArray ++ news.toArray ++ Builtin.zeroCells zv.cells (ncap - (xs.length + ys.length)))[m]? = some v := by
              intro ncap m v hv
              rw [Array.getElem?_append_left (by have := (List.getElem?_eq_some_iff.1 hv).1; simpa using this)]
              simpa using hv
            have hlen : (xs ++ ys).length = xs.length + ys.length := List.length_append
            rcases run_append_any (ty := ty) hu hi hzv hu2 h0 h1 X.w hnr hor hroom h63 with ⟨hc, hrun⟩ | ⟨hc, ncap, hn, hrun⟩
            · have hys : ys = [] := List.eq_nil_of_length_eq_zero (by omega)
              subst hys
              have hne : news = [] := List.eq_nil_of_length_eq_zero (by rw [hnews.len]; simp)
              subst hne
              refine ⟨_, X.w, hrun X.w (by cases a <;> simp [storeCells]), ?_⟩
              split at h
              · split at h
                · cases h
                  -- an owned slice that is empty
                  have t := Cx.push_trans (X := X) (w := X.w) (h' := .own 0 i.size []) (e' := .own (.slice a 0 0)) hX (.refl _) (fun _ _ => rfl) (fun b hb => by cases a <;> simp [EC.blk] at hb)
                  have hok := Cx.push_ok (X := X) (w := X.w) (h' := .own 0 i.size []) (e' := .own (.slice a 0 0)) hX (.refl _) (fun _ _ => rfl) (fun b hb => by cases a <;> simp [EC.blk] at hb)
                    (fun b hb => by cases a <;> simp [EC.blk] at hb) (fun t => ⟨hz, by simp, .inl ⟨a, rfl, rfl⟩⟩)
                  refine ⟨X.push X.w (.own 0 i.size []) (.own (.slice a 0 0)), rfl, rfl, hok, t, .os rfl (by simp [Cx.push, hX.len]) (.inl ⟨0, i.size, [], by simp [Cx.push], Nat.le_refl _⟩) fun z' xs' hdr hH hE => ?_⟩
                  have h1 : (X.E ++ [EC.own (.slice a 0 0)])[X.H.length]? = some (EC.own (.slice a 0 0)) := by rw [← hX.len]; simp
                  simp only [Cx.push] at hH hE
                  rw [h1] at hE
                  injection hE with hE
                  injection hE with hE
                  subst hE
                  exact ⟨rfl, rfl, rfl⟩
                · cases h
              · split at h
                case isFalse => cases h
                cases h
                refine ⟨X, rfl, rfl, hX, Trans.refl hX, ?_⟩
                rw [List.append_nil]
                split at hbase
                · rename_i hnil
                  cases hbase
                  unfold isNilSl at hnil
                  split at hnil
                  · exact .frz (.slE (by simp))
                  · cases hnil
                · split at hbase
                  · cases hbase
                    have hf : FRel X.w X.M (.sl true i.size xs) (.slice a xs.length xs.length) := hs.pure rfl
                    cases hf with
                    | slE hf => exact .frz (.slE (by simp))
                    | sl g h1 h2 h3 h4 h5 h6 h7 h8 h9 h10 => exact .frz (.sl g h1 h2 (by simp) h4 h5 h6 h7 h8 h9 h10)
                  · cases hbase
            · refine ⟨_, _, hrun, ?_⟩
              split at h
              · split at h
                · cases h
                  simp only [List.length_nil, Nat.zero_add] at hn ⊢
                  have := own_new (L := L) hX hz hnews (grown_drew X.w (.cells (olds.toArray ++ news.toArray ++ Builtin.zeroCells zv.cells (ncap - ([].length + ys.length))) e)) (fun m v hv => hget ncap m v (by
                    have : olds = [] := List.eq_nil_of_length_eq_zero (by rw [holds.len]; simp)
                    rw [this]; exact hv)) hn (harr ncap (by simpa using hn)) (hone ncap)
                  simpa using this
                · cases h
              · split at h
                case isFalse => cases h
                rename_i hpy
                cases h
                rw [← hlen]
                rw [← hlen] at hn
                rw [hpy] at hall
                exact frozen_new hX hall (grown_drew X.w _) (by rw [hlen]; exact hget ncap) hn (by simp)
          · cases h
        · cases h
end append
end Go.Abs

/- Storing, copying; new variables and new slices. -/
namespace Go.Abs

theorem splice_get {α : Type} {l m : List α} {off : Nat} (h : off + m.length ≤ l.length) (j : Nat) :
    (l.take off ++ m ++ l.drop (off + m.length))[j]? = if j < off then l[j]? else if j < off + m.length then m[j - off]? else l[j]? := by
  have ht : (l.take off).length = off := by rw [List.length_take]; omega
  rw [List.append_assoc]
  split
  · rename_i hj
    rw [List.getElem?_append_left (by omega), List.getElem?_take, if_pos hj]
  · rename_i hj
    rw [List.getElem?_append_right (by omega), ht]
    split
    · rw [List.getElem?_append_left (by omega)]
    · rw [List.getElem?_append_right (by omega), List.getElem?_drop]
      congr 1
      omega

theorem one_get {α : Type} {a c : α} {i : Nat} (h : [a][i]? = some c) : c = a := by
  cases i with
  | zero => simpa using h.symm
  | succ i => simp at h

theorem cells_still {a : AV} (h : a.still = true) {i : Nat} {c : AV} (hc : a.cells[i]? = some c) : c.still = true := by
  cases a <;> first
    | exact stillL_get h i c hc
    | (rw [one_get hc]; exact h)

theorem cells_pure {a : AV} (h : a.pure = true) {i : Nat} {c : AV} (hc : a.cells[i]? = some c) : c.pure = true := by
  cases a <;> first
    | exact pureL_get h i c hc
    | (rw [one_get hc]; exact h)

theorem cells_under {a : AV} {b : Nat} (h : AV.under b a = true) {i : Nat} {c : AV} (hc : a.cells[i]? = some c) : AV.under b c = true := by
  cases a <;> first
    | exact underL_get h i c hc
    | (rw [one_get hc]; exact h)

section
variable {P : Program} {T : TT} (hT : TOk P T) {X : Cx} {L : List Nat}

/-- Cells written into a block. -/
theorem run_store_cells {w : World} {t n b o : Nat} {g : Bool} (hT : TOk P T) (hs : T.size t = some (n, g)) {arr : Array Value} {ty : TypeId} (hb : w.heap[b]? = some (.cells arr ty (0, 0))) {v : Value}
    (hn : v.cells.size = n) (ho : o + n ≤ arr.size) (h1 : ∀ (i : Nat) u, v.cells[i]? = some u → u.oneCell' = true) :
    (Instr.storeAt t (.pointer (some ⟨b, o, none⟩)) v).run P w = .ok () (w.setRow b (arr.toList.take o ++ v.cells.toList ++ arr.toList.drop (o + v.cells.toList.length)).toArray) := by
  have hst := run_storeCells_at P b o ty v.cells.toList 0 arr w hb (by simp; omega) (fun u hu => by
    obtain ⟨i, hi⟩ := List.mem_iff_getElem?.1 hu
    exact h1 i u (by simpa using hi))
  simp only [Nat.add_zero] at hst
  simp only [Instr.storeAt, Instr.sureAddr, Sem.run_bind, Sem.run_pure, Result.andThen_ok, storeVar, hT.sizeOf hs, hn, ne_eq, not_true_eq_false, if_false]
  exact hst

theorem setRow_size (w : World) (b : Nat) (c : Array Value) : (w.setRow b c).heap.size = w.heap.size := by simp [World.setRow]

include hT in
theorem aStore_run (hX : X.Ok) {b0 t : Nat} {a x : AV} {H' : List Ent} (h : aStore T b0 X.H t a x = some H') {u v : Value} (hu : VRel X L a u) (hv : VRel X L x v) :
    ∃ w', (Instr.storeAt t u v).run P X.w = .ok () w' ∧ ∃ X' : Cx, X'.w = w' ∧ X'.H = H' ∧ X'.Ok ∧ Trans X X' := by
  unfold aStore at h
  split at h
  · cases h
  · rename_i n g hs
    split at h
    · rename_i hc
      obtain ⟨hn, hst⟩ := hc
      obtain ⟨hc1, hc2, hc3⟩ := hv.cells hst
      rw [hn] at hc1
      split at h
      · rename_i k off
        split at h
        · rename_i cs hk
          split at h
          · rename_i hc
            obtain ⟨hle, hstill, _⟩ := hc
            cases h
            obtain ⟨e', hE, hr⟩ := hX.hec hk
            cases e' <;> simp only [EntRel] at hr
            rename_i b
            obtain ⟨hM, arr, ty, h1, h2, h3, h4⟩ := hr
            obtain rfl := hu.bp_inv.2.2 b hE
            refine ⟨_, run_store_cells hT hs h1 hc1 (by omega) hc2, ?_⟩
            have hsz := setRow_size X.w b (arr.toList.take off ++ v.cells.toList ++ arr.toList.drop (off + v.cells.toList.length)).toArray
            have hlat := later_setRow X.w b (arr.toList.take off ++ v.cells.toList ++ arr.toList.drop (off + v.cells.toList.length)).toArray
            have hvl : v.cells.toList.length = x.cells.length := by simp [hc1, hn]
            have hset := setRow_heap X.w b arr (arr.toList.take off ++ v.cells.toList ++ arr.toList.drop (off + v.cells.toList.length)).toArray ty (0, 0) h1
            have hbl := (Array.getElem?_eq_some_iff.1 h1).1
            have hk1 : ∀ b', b' < X.w.heap.size → (EC.box b).blk ≠ some b' → (X.w.setRow b (arr.toList.take off ++ v.cells.toList ++ arr.toList.drop (off + v.cells.toList.length)).toArray).heap[b']? = X.w.heap[b']? :=
              fun b' _ hne => setRow_other X.w b b' _ (fun he => hne (by simp [EC.blk, he]))
            generalize X.w.setRow b (arr.toList.take off ++ v.cells.toList ++ arr.toList.drop (off + v.cells.toList.length)).toArray = w1 at *
            refine ⟨X.put w1 k (.box b) (.box (putAt off x.cells cs)) (.box b), rfl, rfl, Cx.put_ok hX hk hE hlat hk1 (fun _ hb => .inl hb) (fun b' hb' => by
                simp only [EC.blk, Option.some.injEq] at hb'; rw [hsz]; omega) rfl (fun t => ⟨.inr rfl, _, ty, hset, ?_, fun j w' hw => ?_, fun j c w' hcc hw => ?_⟩),
              Cx.put_trans hX hk hE hlat hk1 (fun _ hb => .inl hb) rfl⟩
            · simp [putAt, hc1, hn, h2]
            · simp only [List.getElem?_toArray] at hw
              rw [splice_get (by simp; omega)] at hw
              split at hw
              · exact h3 _ _ (by simpa using hw)
              · split at hw
                · exact hc2 _ _ (by simpa using hw)
                · exact h3 _ _ (by simpa using hw)
            · simp only [List.getElem?_toArray] at hw
              rw [splice_get (by simp; omega)] at hw
              unfold putAt at hcc
              rw [splice_get (by omega)] at hcc
              rw [hvl] at hw
              split at hw
              · rw [if_pos (by assumption)] at hcc
                exact (h4 _ _ _ hcc (by simpa using hw)).trans t hX
              · rw [if_neg (by assumption)] at hcc
                split at hw
                · rw [if_pos (by assumption)] at hcc
                  refine VRel.trans t hX ?_
                  exact (hc3 _ _ _ hcc (by simpa using hw)).calm (cells_still hstill hcc)
                · rw [if_neg (by assumption)] at hcc
                  exact (h4 _ _ _ hcc (by simpa using hw)).trans t hX
          · cases h
        · cases h
      · rename_i k i off vr
        split at h
        · rename_i vr' z xs hk
          split at h
          · rename_i hvr
            subst hvr
            split at h
            · rename_i y hy
              split at h
              · rename_i hc
                obtain ⟨hle, hstill, _⟩ := hc
                cases h
                obtain ⟨e', hE, hr⟩ := hX.hec hk
                cases e' <;> simp only [EntRel] at hr
                rename_i hdr
                obtain ⟨a, nn, cap', hhdr, rfl⟩ := hu.op_inv.2.2.2 z xs hdr hk hE
                obtain ⟨hz, hl, hr⟩ := hr
                rcases hr with ⟨_, _, rfl⟩ | ⟨b, cap, arr, ty, h1, hM, h2, h3, h5, h7, h6⟩
                · simp at hy
                · rw [h1] at hhdr
                  cases hhdr
                  subst h1
                  have hyl := hl y (List.mem_of_getElem? hy)
                  have hilt := (List.getElem?_eq_some_iff.1 hy).1
                  have hfit : i * z + off + n ≤ arr.size := by
                    have : (i + 1) * z ≤ (cap + 1) * z := Nat.mul_le_mul_right _ (by omega)
                    rw [h3]
                    rw [Nat.add_mul] at this
                    omega
                  refine ⟨_, run_store_cells hT hs h2 hc1 hfit hc2, ?_⟩
                  have hsz := setRow_size X.w b (arr.toList.take (i * z + off) ++ v.cells.toList ++ arr.toList.drop (i * z + off + v.cells.toList.length)).toArray
                  have hlat := later_setRow X.w b (arr.toList.take (i * z + off) ++ v.cells.toList ++ arr.toList.drop (i * z + off + v.cells.toList.length)).toArray
                  have hvl : v.cells.toList.length = x.cells.length := by simp [hc1, hn]
                  have hset := setRow_heap X.w b arr (arr.toList.take (i * z + off) ++ v.cells.toList ++ arr.toList.drop (i * z + off + v.cells.toList.length)).toArray ty (0, 0) h2
                  have hbl := (Array.getElem?_eq_some_iff.1 h2).1
                  have hpl : (putAt off x.cells y).length = z := by simp [putAt]; omega
                  have hk1 : ∀ b', b' < X.w.heap.size → (EC.own (.slice (some ⟨b, 0, none⟩) xs.length (cap + 1))).blk ≠ some b' →
                      (X.w.setRow b (arr.toList.take (i * z + off) ++ v.cells.toList ++ arr.toList.drop (i * z + off + v.cells.toList.length)).toArray).heap[b']? = X.w.heap[b']? :=
                    fun b' _ hne => setRow_other X.w b b' _ (fun he => hne (by simp [EC.blk, he]))
                  generalize X.w.setRow b (arr.toList.take (i * z + off) ++ v.cells.toList ++ arr.toList.drop (i * z + off + v.cells.toList.length)).toArray = w1 at *
                  have hturn : Turns (.own vr z xs) (.own (.slice (some ⟨b, 0, none⟩) xs.length (cap + 1))) (.own vr z (xs.set i (putAt off x.cells y))) (.own (.slice (some ⟨b, 0, none⟩) xs.length (cap + 1))) := ⟨Nat.le_refl _, rfl, fun _ => rfl⟩
                  refine ⟨X.put w1 k (.own (.slice (some ⟨b, 0, none⟩) xs.length (cap + 1))) (.own vr z (xs.set i (putAt off x.cells y))) (.own (.slice (some ⟨b, 0, none⟩) xs.length (cap + 1))), rfl, rfl,
                    Cx.put_ok hX hk hE hlat hk1 (fun _ hb => .inl hb) (fun b' hb' => by
                      simp only [EC.blk, Option.some.injEq] at hb'; rw [hsz]; omega) hturn (fun t => ⟨hz, fun y' hy' => ?_, .inr ⟨b, cap, _, ty, by rw [List.length_set], .inr rfl, hset, ?_, by rw [List.length_set]; exact h5, fun j w' hw => ?_, fun i' j y' c hy' hcc => ?_⟩⟩),
                    Cx.put_trans hX hk hE hlat hk1 (fun _ hb => .inl hb) hturn⟩
                  · rcases List.mem_or_eq_of_mem_set hy' with hm | rfl
                    · exact hl y' hm
                    · exact hpl
                  · simp [hc1]
                    omega
                  · simp only [List.getElem?_toArray] at hw
                    rw [splice_get (by simp; omega)] at hw
                    split at hw
                    · exact h7 _ _ (by simpa using hw)
                    · split at hw
                      · exact hc2 _ _ (by simpa using hw)
                      · exact h7 _ _ (by simpa using hw)
                  · simp only [List.getElem?_toArray]
                    rw [splice_get (by simp; omega), hvl]
                    rw [List.getElem?_set] at hy'
                    split at hy'
                    · rename_i hii
                      subst hii
                      simp only [Option.some.injEq] at hy'
                      subst hy'
                      unfold putAt at hcc
                      rw [splice_get (by omega)] at hcc
                      by_cases hj1 : j < off
                      · rw [if_pos hj1] at hcc
                        rw [if_pos (by omega)]
                        obtain ⟨q, h8, h9⟩ := h6 i j y c hy hcc
                        exact ⟨q, by simpa using h8, h9.trans t hX⟩
                      · rw [if_neg hj1] at hcc
                        rw [if_neg (by omega)]
                        by_cases hj2 : j < off + x.cells.length
                        · rw [if_pos hj2] at hcc
                          rw [if_pos (by omega)]
                          have hlt := (List.getElem?_eq_some_iff.1 hcc).1
                          have hvv : v.cells[j - off]? = some (v.cells[j - off]'(by omega)) := Array.getElem?_eq_getElem _
                          refine ⟨_, by rw [show i * z + j - (i * z + off) = j - off by omega]; simp, VRel.trans t hX ((hc3 _ _ _ hcc hvv).calm (cells_still hstill hcc))⟩
                        · rw [if_neg hj2] at hcc
                          rw [if_neg (by omega)]
                          obtain ⟨q, h8, h9⟩ := h6 i j y c hy hcc
                          exact ⟨q, by simpa using h8, h9.trans t hX⟩
                    · rename_i hii
                      have hj := (List.getElem?_eq_some_iff.1 hcc).1
                      rw [hl y' (List.mem_of_getElem? hy')] at hj
                      obtain ⟨q, h8, h9⟩ := h6 i' j y' c hy' hcc
                      refine ⟨q, ?_, h9.trans t hX⟩
                      rcases Nat.lt_or_gt_of_ne hii with hlt | hgt
                      · have : (i + 1) * z ≤ i' * z := Nat.mul_le_mul_right _ hlt
                        rw [Nat.add_mul] at this
                        rw [if_neg (by omega), if_neg (by omega)]
                        simpa using h8
                      · have : (i' + 1) * z ≤ i * z := Nat.mul_le_mul_right _ hgt
                        rw [Nat.add_mul] at this
                        rw [if_pos (by omega)]
                        simpa using h8
              · cases h
            · cases h
          · cases h
        · cases h
      · cases h
    · cases h
end
end Go.Abs

/- New variables, literals, new slices; lengths; parts of slices. -/
namespace Go.Abs

section
variable {P : Program} {T : TT} (hT : TOk P T) {X : Cx} {L : List Nat}

/-- A new box. -/
theorem box_new (hX : X.Ok) {cs : List AV} {arr : Array Value} {e : TypeId} {w' : World} (hg : Grown X.w w' (.cells arr e (0, 0))) (hl : arr.size = cs.length)
    (h1 : ∀ (j : Nat) v, arr[j]? = some v → v.oneCell' = true) (hr : ∀ (j : Nat) c v, cs[j]? = some c → arr[j]? = some v → VRel X [] c v) :
    Step X L (.bp X.H.length 0) (X.H ++ [.box cs]) (.pointer (some ⟨X.w.heap.size, 0, none⟩)) w' := by
  have hs : Later X.w w' := hg.later
  have hk : ∀ b, b < X.w.heap.size → w'.heap[b]? = X.w.heap[b]? := fun b hb => hg.old hb
  have hb1 : ∀ b, (EC.box X.w.heap.size).blk = some b → X.w.heap.size ≤ b := fun b hb => by simp [EC.blk] at hb; omega
  have hb2 : ∀ b, (EC.box X.w.heap.size).blk = some b → b < w'.heap.size := fun b hb => by simp [EC.blk] at hb; rw [hg.size]; omega
  have t := Cx.push_trans (h' := .box cs) hX hs hk hb1
  refine ⟨X.push w' (.box cs) (.box X.w.heap.size), rfl, rfl, Cx.push_ok hX hs hk hb1 hb2 (fun t => ⟨.inr rfl, arr, e, hg.new, hl, h1, fun j c v hc hv => (hr j c v hc hv).trans t hX⟩), t, .bp rfl (by simp [Cx.push, hX.len]) fun b hb => ?_⟩
  have h1 : (X.E ++ [EC.box X.w.heap.size])[X.H.length]? = some (EC.box X.w.heap.size) := by rw [← hX.len]; simp
  simp only [Cx.push] at hb
  rw [h1] at hb
  injection hb with hb
  injection hb with hb
  subst hb
  rfl

theorem sc_cells {zs : List Value} {arr : Array Value} (h : arr.toList = zs) : ∀ (j : Nat) c v, (zs.map AV.sc)[j]? = some c → arr[j]? = some v → VRel X L c v := by
  intro j c v hc hv
  rw [List.getElem?_map] at hc
  obtain ⟨u, hu, rfl⟩ := Option.map_eq_some_iff.1 hc
  rw [← h] at hu
  simp only [Array.getElem?_toList] at hu
  rw [hv] at hu
  cases hu
  exact .frz (.sc _)

include hT in
theorem alloc_run (hX : X.Ok) {t : Nat} {zs : List Value} (h : T.zero t = some zs) : ∃ w', (Instr.alloc t true (.tuple #[])).run P X.w = .ok (.pointer (some ⟨X.w.heap.size, 0, none⟩)) w' ∧
    Step X L (.bp X.H.length 0) (X.H ++ [.box (zs.map .sc)]) (.pointer (some ⟨X.w.heap.size, 0, none⟩)) w' := by
  obtain ⟨i, v, h1, h2, h3, h4⟩ := hT.zero t zs h
  refine ⟨X.w.alloc (.cells v.cells t), ?_, box_new hX (grown_alloc _ _) (by simp [← h3]) (fun j u hu => h4 u ?_) (sc_cells h3)⟩
  · simp [Instr.alloc, zeroValue, typeInfo, h1, h2, newVar, newRow]
  · rw [← h3]
    exact List.mem_of_getElem? (i := j) (by simpa using hu)

theorem box_run (hX : X.Ok) {t n : Nat} {g : Bool} (_h : T.size t = some (n, g)) {a : AV} {v : Value} (hv : VRel X L a v) (hs : a.storable = true) (hst : a.still = true) :
    ∃ w', (Instr.box t v).run P X.w = .ok (.pointer (some ⟨X.w.heap.size, 0, none⟩)) w' ∧ Step X L (.bp X.H.length 0) (X.H ++ [.box a.cells]) (.pointer (some ⟨X.w.heap.size, 0, none⟩)) w' := by
  obtain ⟨h1, h2, h3⟩ := hv.cells hs
  refine ⟨X.w.alloc (.cells v.cells t), by simp [Instr.box, newVar, newRow], box_new hX (grown_alloc _ _) h1 h2 (fun j c u hc hu => (h3 j c u hc hu).calm (cells_still hst hc))⟩

theorem zip_fold (off : Nat) : ∀ (l : List Value) (k : Nat) (cs : Array Value), off + k + l.length ≤ cs.size →
    ((l.zipIdx k).foldl (fun (cs : Array Value) (p : Value × Nat) => cs.setIfInBounds (off + p.2) p.1) cs).size = cs.size ∧
    ∀ m : Nat, ((l.zipIdx k).foldl (fun (cs : Array Value) (p : Value × Nat) => cs.setIfInBounds (off + p.2) p.1) cs)[m]? = if off + k ≤ m ∧ m < off + k + l.length then l[m - (off + k)]? else cs[m]?
  | [], k, cs, _ => ⟨rfl, fun m => by simp; omega⟩
  | v :: l, k, cs, h => by
    simp only [List.length_cons] at h
    obtain ⟨h1, h2⟩ := zip_fold off l (k + 1) (cs.setIfInBounds (off + k) v) (by simp; omega)
    simp only [List.zipIdx_cons, List.foldl_cons]
    refine ⟨by rw [h1]; simp, fun m => ?_⟩
    rw [h2 m]
    by_cases hm : m = off + k
    · subst hm
      rw [if_neg (by omega), if_pos (by simp)]
      have : off + k < cs.size := by omega
      simp [this]
    · by_cases hin : off + k ≤ m ∧ m < off + k + (v :: l).length
      · rw [if_pos hin, if_pos (by simp at hin; omega)]
        rw [show m - (off + k) = (m - (off + (k + 1))) + 1 by omega]
        simp
      · rw [if_neg hin, if_neg (by simp at hin; omega)]
        rw [Array.getElem?_setIfInBounds_ne (by omega)]

/-- Parts put into their places. -/
theorem fill_run {place : Nat → Option (Nat × Nat)} : ∀ (parts : List (Nat × AV)) (vals : List (Nat × Value)) (cs cs' : List AV) (arr : Array Value), fillA place parts cs = some cs' →
    vals.length = parts.length → (∀ (j : Nat) p q, parts[j]? = some p → vals[j]? = some q → p.1 = q.1 ∧ VRel X L p.2 q.2) → arr.size = cs.length →
    (∀ (j : Nat) v, arr[j]? = some v → v.oneCell' = true) → (∀ (j : Nat) c v, cs[j]? = some c → arr[j]? = some v → VRel X L c v) →
    ∃ arr', Instr.fill place arr vals = some arr' ∧ arr'.size = cs'.length ∧ cs'.length = cs.length ∧ (∀ (j : Nat) v, arr'[j]? = some v → v.oneCell' = true) ∧ ∀ (j : Nat) c v, cs'[j]? = some c → arr'[j]? = some v → VRel X L c v
  | [], [], cs, cs', arr, h, _, _, hl, h1, hr => by
    simp only [fillA, Option.some.injEq] at h
    subst h
    exact ⟨arr, rfl, hl, rfl, h1, hr⟩
  | [], _ :: _, _, _, _, _, hl, _, _, _, _ => by simp at hl
  | _ :: _, [], _, _, _, _, hl, _, _, _, _ => by simp at hl
  | (i, a) :: parts, (i', v) :: vals, cs, cs', arr, h, hlen, hp, hl, h1, hr => by
    obtain ⟨hii, hv⟩ := hp 0 (i, a) (i', v) rfl rfl
    replace hv : VRel X L a v := hv
    replace hii : i = i' := hii
    subst hii
    simp only [fillA] at h
    simp only [Instr.fill]
    split at h
    · cases h
    · rename_i off size hpl
      split at h
      · rename_i hc
        obtain ⟨hn, hst, hle⟩ := hc
        replace hn : a.cells.length = size := hn
        obtain ⟨hc1, hc2, hc3⟩ := hv.cells hst
        simp only [hpl]
        rw [if_neg (show ¬ ((decide (v.cells.size ≠ size) || decide (off + v.cells.size > arr.size)) = true) by simp; omega)]
        obtain ⟨hz1, hz2⟩ := zip_fold off v.cells.toList 0 arr (by simp; omega)
        have hfold : v.cells.zipIdx.foldl (fun cs (x : Value × Nat) => cs.setIfInBounds (off + x.2) x.1) arr = (v.cells.toList.zipIdx 0).foldl (fun (cs : Array Value) (p : Value × Nat) => cs.setIfInBounds (off + p.2) p.1) arr := by
          rw [← Array.foldl_toList, Array.toList_zipIdx]
        simp only [Nat.add_zero, Array.length_toList, Array.getElem?_toList] at hz2
        have hpl2 : (putAt off a.cells cs).length = cs.length := by simp [putAt]; omega
        have hget : ∀ j : Nat, (putAt off a.cells cs)[j]? = if j < off then cs[j]? else if j < off + a.cells.length then a.cells[j - off]? else cs[j]? := fun j => splice_get (by omega) j
        have hrec := fill_run parts vals (putAt off a.cells cs) cs' (v.cells.zipIdx.foldl (fun cs (x : Value × Nat) => cs.setIfInBounds (off + x.2) x.1) arr) h (by simpa using hlen)
          (fun j p q hpj hqj => hp (j + 1) p q (by simpa using hpj) (by simpa using hqj)) (by rw [hfold, hz1, hpl2]; exact hl)
          (fun j u hu => by
            rw [hfold, hz2 j] at hu
            split at hu
            · exact hc2 _ _ hu
            · exact h1 _ _ hu)
          (fun j c u hcj hu => by
            rw [hfold, hz2 j] at hu
            rw [hget j] at hcj
            by_cases hj1 : j < off
            · rw [if_pos hj1] at hcj
              rw [if_neg (by omega)] at hu
              exact hr j c u hcj hu
            · rw [if_neg hj1] at hcj
              by_cases hj2 : j < off + a.cells.length
              · rw [if_pos hj2] at hcj
                rw [if_pos (by omega)] at hu
                exact hc3 _ _ _ hcj hu
              · rw [if_neg hj2] at hcj
                rw [if_neg (by omega)] at hu
                exact hr j c u hcj hu)
        obtain ⟨arr', q1, q2, q3, q4, q5⟩ := hrec
        exact ⟨arr', q1, q2, by rw [q3, hpl2], q4, q5⟩
      · cases h

theorem fieldPlaces_list (w : World) : ∀ (fl : List Field) (l : List (Nat × Nat × Bool)), fl.length = l.length →
    (∀ (f : Nat) off n g, l[f]? = some (off, n, g) → ∃ x i, fl[f]? = some x ∧ x.offset = off ∧ P.info? x.type = some i ∧ i.size = n) →
    (fl.mapM fun f => do pure (f.offset, ← sizeOf f.type) : Sem (List (Nat × Nat))).run P w = .ok (l.map fun r => (r.1, r.2.1)) w
  | [], [], _, _ => rfl
  | [], _ :: _, h, _ => by simp at h
  | _ :: _, [], h, _ => by simp at h
  | x :: fl, (off, n, g) :: l, hl, hf => by
    obtain ⟨y, i, h1, h2, h3, h4⟩ := hf 0 off n g rfl
    simp at h1
    subst h1
    have ih := fieldPlaces_list w fl l (by simpa using hl) (fun f off n g h => by
      obtain ⟨z, i, h1, h2⟩ := hf (f + 1) off n g (by simpa using h)
      exact ⟨z, i, by simpa using h1, h2⟩)
    have hz : (Go.sizeOf x.type).run P w = .ok n w := by simp [Go.sizeOf, typeInfo, h3, h4]
    simp only [List.mapM_cons, Sem.run_bind, Sem.run_pure, Result.andThen_ok, hz, ih, List.map_cons, h2]

theorem fieldPlaces_run {fs : Array Field} {l : List (Nat × Nat × Bool)} (hlen : fs.size = l.length)
    (hf : ∀ (f : Nat) off n g, l[f]? = some (off, n, g) → ∃ fl i d, fs[f]? = some fl ∧ fl.offset = off ∧ P.info? fl.type = some i ∧ i.size = n ∧ 0 < n ∧ P.underlying fl.type = some d ∧ aggD d = g) (w : World) :
    (fs.mapM fun f => do pure (f.offset, ← sizeOf f.type) : Sem (Array (Nat × Nat))).run P w = .ok (l.map fun r => (r.1, r.2.1)).toArray w := by
  rw [Array.mapM_eq_mapM_toList]
  simp only [Sem.run_map]
  rw [fieldPlaces_list w fs.toList l (by simpa using hlen) (fun f off n g h => by
    obtain ⟨x, i, d, h1, h2, h3, h4, _⟩ := hf f off n g h
    exact ⟨x, i, by simpa using h1, h2, h3, h4⟩)]
  rfl

include hT in
theorem aBuild_run {t : Nat} {parts : List (Nat × AV)} {r : AV} (h : aBuild T t parts = some r) {vals : Array (Nat × Value)} (hlen : vals.size = parts.length)
    (hp : ∀ (j : Nat) p q, parts[j]? = some p → vals[j]? = some q → p.1 = q.1 ∧ VRel X L p.2 q.2) : ∃ u, (Instr.build t vals).run P X.w = .ok u X.w ∧ VRel X L r u := by
  unfold aBuild at h
  split at h
  · cases h
  · rename_i zs hz
    obtain ⟨i, v, h1, h2, h3, h4⟩ := hT.zero t zs hz
    have hzl : v.cells.size = (zs.map AV.sc).length := by simp [← h3]
    have hz1 : ∀ (j : Nat) u, v.cells[j]? = some u → u.oneCell' = true := fun j u hu => h4 u (by rw [← h3]; exact List.mem_of_getElem? (i := j) (by simpa using hu))
    have hzr := sc_cells (X := X) (L := L) h3
    split at h
    · rename_i fs hfs
      obtain ⟨cs', hcs, rfl⟩ := Option.map_eq_some_iff.1 h
      obtain ⟨ff, hu, hl, hf⟩ := hT.fld t fs hfs
      obtain ⟨arr', q1, q2, q3, q4, q5⟩ := fill_run parts vals.toList _ cs' v.cells hcs (by simpa using hlen) (fun j p q a b => hp j p q a (by simpa using b)) hzl hz1 hzr
      refine ⟨.agg arr', ?_, .agg q2 q4 q5⟩
      have hplace : (fun (i : Nat) => (fs.map fun r => (r.1, r.2.1)).toArray[i]?) = fun (i : Nat) => (fs[i]?).map fun r => (r.1, r.2.1) := by
        funext i
        simp
      simp only [Instr.build, Sem.run_bind, zeroValue, typeInfo, run_program, Result.andThen_ok, h1, h2, Sem.run_pure, run_underlying hu, fieldPlaces_run hl hf, hplace, q1]
    · rename_i n z g hfs ha
      obtain ⟨cs', hcs, rfl⟩ := Option.map_eq_some_iff.1 h
      obtain ⟨e, ii, d, hu, hi, hsz, _⟩ := hT.arr _ _ _ _ ha
      obtain ⟨arr', q1, q2, q3, q4, q5⟩ := fill_run parts vals.toList _ cs' v.cells hcs (by simpa using hlen) (fun j p q a b => hp j p q a (by simpa using b)) hzl hz1 hzr
      refine ⟨.agg arr', ?_, .agg q2 q4 q5⟩
      simp only [Instr.build, Sem.run_bind, zeroValue, typeInfo, run_program, Result.andThen_ok, h1, h2, Sem.run_pure, run_underlying hu, Go.sizeOf, hi, hsz, q1]
    · cases h

/-- Rows cut out of cells. -/
theorem News.chunks {z len : Nat} {cs : List AV} {arr : Array Value} (hl : arr.size = cs.length) (hlen : cs.length = len * z) (h1 : ∀ (j : Nat) v, arr[j]? = some v → v.oneCell' = true)
    (hr : ∀ (j : Nat) c v, cs[j]? = some c → arr[j]? = some v → FRel X.w X.M c v) : News X true z (chunks z len cs) arr.toList where
  len := by rw [chunks_length]; simp; omega
  row := fun y hy => by
    obtain ⟨i, hi⟩ := List.mem_iff_getElem?.1 hy
    obtain ⟨rfl, hlt⟩ := chunks_get hi
    have : (i + 1) * z ≤ len * z := Nat.mul_le_mul_right _ hlt
    rw [Nat.add_mul] at this
    simp
    omega
  one := fun v hv => by
    obtain ⟨j, hj⟩ := List.mem_iff_getElem?.1 hv
    exact h1 j v (by simpa using hj)
  rel := fun i j y c hy hc => by
    obtain ⟨rfl, hlt⟩ := chunks_get hy
    rw [List.getElem?_take] at hc
    split at hc
    · rw [List.getElem?_drop] at hc
      have hb := (List.getElem?_eq_some_iff.1 hc).1
      have hcell : arr[i * z + j]? = some (arr[i * z + j]'(by omega)) := Array.getElem?_eq_getElem _
      exact ⟨_, by simp, .frz (hr _ _ _ hc hcell), fun _ => hr _ _ _ hc hcell⟩
    · cases hc

/-- Rows cut out of cells, whatever they lead to. -/
theorem News.chunksV {z len : Nat} {cs : List AV} {arr : Array Value} (hl : arr.size = cs.length) (hlen : cs.length = len * z) (h1 : ∀ (j : Nat) v, arr[j]? = some v → v.oneCell' = true)
    (hr : ∀ (j : Nat) c v, cs[j]? = some c → arr[j]? = some v → VRel X [] c v) : News X false z (Go.Abs.chunks z len cs) arr.toList where
  len := by rw [chunks_length]; simp; omega
  row := fun y hy => by
    obtain ⟨i, hi⟩ := List.mem_iff_getElem?.1 hy
    obtain ⟨rfl, hlt⟩ := chunks_get hi
    have : (i + 1) * z ≤ len * z := Nat.mul_le_mul_right _ hlt
    rw [Nat.add_mul] at this
    simp
    omega
  one := fun v hv => by
    obtain ⟨j, hj⟩ := List.mem_iff_getElem?.1 hv
    exact h1 j v (by simpa using hj)
  rel := fun i j y c hy hc => by
    obtain ⟨rfl, hlt⟩ := chunks_get hy
    rw [List.getElem?_take] at hc
    split at hc
    · rw [List.getElem?_drop] at hc
      have hb := (List.getElem?_eq_some_iff.1 hc).1
      have hcell : arr[i * z + j]? = some (arr[i * z + j]'(by omega)) := Array.getElem?_eq_getElem _
      exact ⟨_, by simp, hr _ _ _ hc hcell, fun h => by cases h⟩
    · cases hc

theorem flatten_get {α : Type} {l : List α} {n j : Nat} (hl : 0 < l.length) (hj : j < n * l.length) : (List.replicate n l).flatten[j]? = l[j % l.length]? := by
  induction n generalizing j with
  | zero => simp at hj
  | succ n ih =>
    simp only [List.replicate_succ, List.flatten_cons]
    rw [Nat.add_mul] at hj
    by_cases h : j < l.length
    · rw [List.getElem?_append_left h, Nat.mod_eq_of_lt h]
    · rw [List.getElem?_append_right (by omega), ih (j := j - l.length) (by omega), ← Nat.mod_eq_sub_mod (by omega)]

theorem flatten_length {α : Type} (l : List α) (n : Nat) : (List.replicate n l).flatten.length = n * l.length := by simp

/-- The zero cells of a new row. -/
theorem zeros_rel {zs : List Value} {zv : Array Value} (h : zv.toList = zs) (hz : 0 < zs.length) (n : Nat) (h1 : ∀ x ∈ zs, x.oneCell' = true) :
    ((Array.range (n * zs.length)).map (zv[· % zv.size]!)).size = (List.replicate n (zs.map AV.sc)).flatten.length ∧
    (∀ (j : Nat) v, ((Array.range (n * zs.length)).map (zv[· % zv.size]!))[j]? = some v → v.oneCell' = true) ∧
    ∀ (j : Nat) c v, (List.replicate n (zs.map AV.sc)).flatten[j]? = some c → ((Array.range (n * zs.length)).map (zv[· % zv.size]!))[j]? = some v → VRel X L c v := by
  have hsz : zv.size = zs.length := by rw [← h]; simp
  have hget : ∀ (j : Nat) v, ((Array.range (n * zs.length)).map (zv[· % zv.size]!))[j]? = some v → j < n * zs.length ∧ zs[j % zs.length]? = some v := by
    intro j v hv
    simp only [Array.getElem?_map] at hv
    obtain ⟨i, hi, rfl⟩ := Option.map_eq_some_iff.1 hv
    obtain ⟨hlt, rfl⟩ := Array.getElem?_eq_some_iff.1 hi
    simp at hlt
    simp only [Array.getElem_range]
    refine ⟨hlt, ?_⟩
    have hm : j % zv.size < zv.size := Nat.mod_lt _ (by omega)
    rw [getElem!_pos zv _ hm, ← h]
    simp [hsz]
  refine ⟨by simp, fun j v hv => h1 v (List.mem_of_getElem? (hget j v hv).2), fun j c v hc hv => ?_⟩
  obtain ⟨hj, hv⟩ := hget j v hv
  rw [flatten_get (by simpa using hz) (by simpa using hj), List.getElem?_map, List.length_map, hv] at hc
  cases hc
  exact .frz (.sc _)

theorem fillA_pure {place : Nat → Option (Nat × Nat)} : ∀ (parts : List (Nat × AV)) (cs cs' : List AV), fillA place parts cs = some cs' → AV.pureL (parts.map (·.2)) = true → (∀ (j : Nat) c, cs[j]? = some c → c.pure = true) →
    ∀ (j : Nat) c, cs'[j]? = some c → c.pure = true
  | [], cs, cs', h, _, hc => by
    simp only [fillA, Option.some.injEq] at h
    exact h ▸ hc
  | (i, a) :: parts, cs, cs', h, hp, hc => by
    simp only [List.map_cons, AV.pureL, Bool.and_eq_true] at hp
    simp only [fillA] at h
    split at h
    · cases h
    · rename_i off size hpl
      split at h
      · rename_i hcc
        obtain ⟨hn, hst, hle⟩ := hcc
        refine fillA_pure parts _ cs' h hp.2 fun j c hj => ?_
        rw [putAt, splice_get (show off + a.cells.length ≤ cs.length by have : a.cells.length = size := hn; omega)] at hj
        split at hj
        · exact hc _ _ hj
        · split at hj
          · exact cells_pure hp.1 hj
          · exact hc _ _ hj
      · cases h

theorem fillA_still {place : Nat → Option (Nat × Nat)} : ∀ (parts : List (Nat × AV)) (cs cs' : List AV), fillA place parts cs = some cs' → AV.stillL (parts.map (·.2)) = true → (∀ (j : Nat) c, cs[j]? = some c → c.still = true) →
    ∀ (j : Nat) c, cs'[j]? = some c → c.still = true
  | [], cs, cs', h, _, hc => by
    simp only [fillA, Option.some.injEq] at h
    exact h ▸ hc
  | (i, a) :: parts, cs, cs', h, hp, hc => by
    simp only [List.map_cons, AV.stillL, Bool.and_eq_true] at hp
    simp only [fillA] at h
    split at h
    · cases h
    · rename_i off size hpl
      split at h
      · rename_i hcc
        obtain ⟨hn, hst, hle⟩ := hcc
        refine fillA_still parts _ cs' h hp.2 fun j c hj => ?_
        rw [putAt, splice_get (show off + a.cells.length ≤ cs.length by have : a.cells.length = size := hn; omega)] at hj
        split at hj
        · exact hc _ _ hj
        · split at hj
          · exact cells_still hp.1 hj
          · exact hc _ _ hj
      · cases h

include hT in
theorem buildSlice_run (hX : X.Ok) {t len : Nat} {parts : List (Nat × AV)} {zs : List Value} {z : Nat} {xs : List (List AV)} (hez : T.ezero t = some zs)
    {own : Bool} (h : slLit T own t len parts zs = some (z, xs)) {vals : Array (Nat × Value)} (hlen : vals.size = parts.length)
    (hp : ∀ (j : Nat) p q, parts[j]? = some p → vals[j]? = some q → p.1 = q.1 ∧ VRel X L p.2 q.2) :
    ∃ q w', (Instr.buildSlice t len vals).run P X.w = .ok q w' ∧
      (if own then Step X L (.os X.H.length 0 len 0) (X.H ++ [.own 0 z xs]) q w' else Step X L (.sl false z xs) X.H q w') := by
  unfold slLit at h
  split at h
  · cases h
  · rename_i z' eb he
    split at h
    · rename_i hc
      obtain ⟨hzl, hz0, hmax, hpure⟩ := hc
      obtain ⟨cs', hcs, hzx⟩ := Option.map_eq_some_iff.1 h
      cases hzx
      obtain ⟨te, hte, hzt⟩ := Option.bind_eq_some_iff.1 hez
      replace hte := hT.ety _ _ hte
      obtain ⟨e, i, zv, hu, hi, hsz, hby, hzv, hzs, hzo⟩ := hT.elem _ _ _ he
      rw [hte] at hu
      cases hu
      obtain ⟨i2, v2, h1, h2, h3, h4⟩ := hT.zero te zs hzt
      rw [hi] at h1
      cases h1
      rw [hzv] at h2
      cases h2
      subst hzl
      obtain ⟨r1, r2, r3⟩ := zeros_rel (X := X) (L := L) h3 hz0 len h4
      obtain ⟨arr', q1, q2, q3, q4, q5⟩ := fill_run parts vals.toList _ cs' _ hcs (by simpa using hlen) (fun j p q a b => hp j p q a (by simpa using b)) r1 r2 r3
      have hzero : ∀ (j : Nat) c, (List.replicate len (zs.map AV.sc)).flatten[j]? = some c → ∃ u, c = .sc u := fun j c hj => by
        have hm := List.mem_of_getElem? hj
        rw [List.mem_flatten] at hm
        obtain ⟨l, hl, hcl⟩ := hm
        rw [List.eq_of_mem_replicate hl] at hcl
        obtain ⟨u, _, rfl⟩ := List.mem_map.1 hcl
        exact ⟨u, rfl⟩
      have hcl : cs'.length = len * zs.length := by rw [q3, flatten_length, List.length_map]
      have hrun : (Instr.buildSlice t len vals).run P X.w = .ok (.slice (some ⟨X.w.heap.size, 0, none⟩) len len) (X.w.alloc (.cells arr' te)) := by
        have hmx : ¬ (16777216 < len * zs.length) := by omega
        have hzero : (zeroValue te).run P X.w = .ok zv X.w := by simp [zeroValue, typeInfo, hi, hzv]
        simp only [Instr.buildSlice, Sem.run_bind, run_underlying hte, Result.andThen_ok, Go.sizeOf, typeInfo, run_program, hi, Sem.run_pure, hsz]
        rw [if_neg hmx]
        by_cases h0 : len * zs.length = 0
        · have hr : (Array.range (len * zs.length)).map (fun x => (#[] : Array Value)[x % (#[] : Array Value).size]!) = (Array.range (len * zs.length)).map (zv.cells[· % zv.cells.size]!) := by rw [h0]; simp
          simp only [if_pos h0, Sem.run_bind, Sem.run_pure, Result.andThen_ok, hr, q1, newRow, run_newObj]
          rfl
        · simp only [if_neg h0, Sem.run_bind, Sem.run_pure, Result.andThen_ok, hzero, q1, newRow, run_newObj]
          rfl
      have hlx : (Go.Abs.chunks zs.length len cs').length = len := chunks_length _ _ _
      refine ⟨_, _, hrun, ?_⟩
      cases own with
      | true =>
        have hpu := fillA_still parts _ cs' hcs hpure (fun j c hj => by obtain ⟨u, rfl⟩ := hzero j c hj; rfl)
        have hn : News X false zs.length (Go.Abs.chunks zs.length len cs') arr'.toList := News.chunksV q2 hcl q4 fun j c v hc hv => (q5 j c v hc hv).calm (hpu j c hc)
        simp only [if_true]
        have := own_new (L := L) hX hz0 hn (grown_alloc X.w (.cells arr' te)) (fun m v hv => by simpa using hv) (cap := len) (by rw [hlx]; exact Nat.le_refl _) (by rw [q2, hcl]) q4
        rw [hlx] at this
        exact this
      | false =>
        have hpu := fillA_pure parts _ cs' hcs hpure (fun j c hj => by obtain ⟨u, rfl⟩ := hzero j c hj; rfl)
        have hn : News X true zs.length (Go.Abs.chunks zs.length len cs') arr'.toList := News.chunks q2 hcl q4 fun j c v hc hv => (q5 j c v hc hv).pure (hpu j c hc)
        simp only [Bool.false_eq_true, if_false]
        have := frozen_new (L := L) hX hn (grown_alloc X.w (.cells arr' te)) (fun m v hv => by simpa using hv) (f := false) (cap := len) (by rw [hlx]; exact Nat.le_refl _) (fun h => by cases h)
        rw [hlx] at this
        exact this
    · cases h

theorem i64_id {x : Int} (h0 : 0 ≤ x) (h : x ≤ 9223372036854775807) : IntKind.i64.wrap x = x := by
  have hm : x % 18446744073709551616 = x := Int.emod_eq_of_lt h0 (by omega)
  have hd : decide (x ≥ 9223372036854775808) = false := by simp; omega
  show (if (true && decide (x % 18446744073709551616 ≥ 9223372036854775808)) = true then x % 18446744073709551616 - 18446744073709551616 else x % 18446744073709551616) = x
  simp only [hm, hd, Bool.and_false, Bool.false_eq_true, if_false]

theorem replicate_chunks (z : Nat) (l : List AV) (hl : l.length = z) : ∀ n, chunks z n (List.replicate n l).flatten = List.replicate n l
  | 0 => rfl
  | n + 1 => by
    have h1 : (l ++ (List.replicate n l).flatten).take z = l := by rw [List.take_append_of_le_length (by omega), List.take_of_length_le (by omega)]
    have h2 : (l ++ (List.replicate n l).flatten).drop z = (List.replicate n l).flatten := by rw [List.drop_append_of_le_length (by omega), List.drop_of_length_le (by omega), List.nil_append]
    simp only [chunks, List.replicate_succ, List.flatten_cons, h1, h2, replicate_chunks z l hl n]

include hT in
theorem aMake_run (hX : X.Ok) {own : Bool} {t : Nat} {a b r : AV} {H' : List Ent} (h : aMake T own X.H t a b (T.ezero t) = some (r, H')) {u v : Value} (hu : VRel X L a u) (hv : VRel X L b v) :
    ∃ q w', (Instr.makeSlice t u v).run P X.w = .ok q w' ∧ Step X L r H' q w' := by
  unfold aMake at h
  split at h
  · rename_i z eb l c zs he hez
    split at h
    · rename_i hc
      obtain ⟨h0, hlc, hmax, hzl, hz0, hroom⟩ := hc
      simp only [room, decide_eq_true_eq] at hroom
      obtain ⟨hb0, hroom⟩ := hroom
      obtain ⟨te, hte, hzt⟩ := Option.bind_eq_some_iff.1 hez
      replace hte := hT.ety _ _ hte
      obtain ⟨e, i, zv, hun, hi, hsz, hby, hzv, hzs, hzo⟩ := hT.elem _ _ _ he
      rw [hte] at hun
      cases hun
      obtain ⟨i2, v2, h1, h2, h3, h4⟩ := hT.zero te zs hzt
      rw [hi] at h1
      cases h1
      rw [hzv] at h2
      cases h2
      subst hzl
      obtain ⟨ln, rfl⟩ : ∃ n : Nat, l = n := ⟨l.toNat, by omega⟩
      obtain ⟨cn, rfl⟩ : ∃ n : Nat, c = n := ⟨c.toNat, by omega⟩
      simp only [Int.toNat_natCast] at hroom h
      have hle : ln ≤ cn := by omega
      obtain ⟨r1, r2, r3⟩ := zeros_rel (X := X) (L := L) h3 hz0 cn h4
      have hrow : News X true zs.length (List.replicate ln (zs.map AV.sc)) (List.replicate ln zs).flatten := by
        refine ⟨by simp, fun y hy => by rw [List.eq_of_mem_replicate hy]; simp, fun v hv => ?_, fun i j y c hy hc => ?_⟩
        · rw [List.mem_flatten] at hv
          obtain ⟨l, hl, hv⟩ := hv
          rw [List.eq_of_mem_replicate hl] at hv
          exact h4 v hv
        · have hi := (List.getElem?_eq_some_iff.1 hy).1
          have hy := List.mem_of_getElem? hy
          rw [List.eq_of_mem_replicate hy] at hc
          have hj := (List.getElem?_eq_some_iff.1 hc).1
          simp at hi hj
          rw [List.getElem?_map] at hc
          obtain ⟨u, hu, rfl⟩ := Option.map_eq_some_iff.1 hc
          have hlt : i * zs.length + j < ln * zs.length := by
            have : (i + 1) * zs.length ≤ ln * zs.length := Nat.mul_le_mul_right _ hi
            rw [Nat.add_mul] at this
            omega
          refine ⟨u, ?_, .frz (.sc _), fun _ => .sc _⟩
          rw [flatten_get hz0 hlt, Nat.mul_comm, Nat.mul_add_mod, Nat.mod_eq_of_lt hj]
          exact hu
      rw [hu.sc_inv, hv.sc_inv]
      have hrun : (Instr.makeSlice t (.int .i64 ln) (.int .i64 cn)).run P X.w = .ok (.slice (some ⟨X.w.heap.size, 0, none⟩) ln cn) (X.w.alloc (.cells ((Array.range (cn * zs.length)).map (zv.cells[· % zv.cells.size]!)) te)) := by
        have hw1 : IntKind.i64.wrap (ln : Int) = ln := i64_id (by omega) (by omega)
        have hw2 : IntKind.i64.wrap (cn : Int) = cn := i64_id (by omega) (by omega)
        have hzero : (zeroValue te).run P X.w = .ok zv X.w := by simp [zeroValue, typeInfo, hi, hzv]
        have hbig : ¬ ((281474976710656 : Int) < i.bytes * (cn : Int)) := by
          have : ((cn * i.bytes : Nat) : Int) ≤ 140737488355328 := by
            rw [← hby] at hroom
            omega
          rw [Int.natCast_mul, Int.mul_comm] at this
          omega
        have hn1 : ¬ ((cn : Int) < 0) := by omega
        have hn2 : ¬ ((ln : Int) < 0) := by omega
        have hn3 : ¬ ((cn : Int) < ln) := by omega
        simp only [Instr.makeSlice, Sem.run_bind, run_underlying hte, Result.andThen_ok, asInt, asIntOf, Sem.run_pure, typeInfo, run_program, hi, hw1, hw2]
        rw [if_neg (by simp [hbig, hn1, hn2, hn3])]
        simp only [Sem.run_bind, run_askRoom, Result.andThen_ok, Go.sizeOf, typeInfo, run_program, hi, Sem.run_pure, hsz, Int.toNat_natCast]
        by_cases h0 : cn * zs.length = 0
        · have hr : (Array.range (cn * zs.length)).map (fun x => (#[] : Array Value)[x % (#[] : Array Value).size]!) = (Array.range (cn * zs.length)).map (zv.cells[· % zv.cells.size]!) := by rw [h0]; simp
          simp only [if_pos h0, Sem.run_bind, Sem.run_pure, Result.andThen_ok, hr, newRow, run_newObj]
          rfl
        · simp only [if_neg h0, Sem.run_bind, Sem.run_pure, Result.andThen_ok, hzero, newRow, run_newObj]
          rfl
      have hget : ∀ (m : Nat) v, (List.replicate ln zs).flatten[m]? = some v → ((Array.range (cn * zs.length)).map (zv.cells[· % zv.cells.size]!))[m]? = some v := by
        intro m v hv
        have hm := (List.getElem?_eq_some_iff.1 hv).1
        rw [flatten_length] at hm
        rw [flatten_get hz0 hm] at hv
        have hmc : m < cn * zs.length := Nat.lt_of_lt_of_le hm (Nat.mul_le_mul_right _ hle)
        have hmm : m % zv.cells.size < zv.cells.size := Nat.mod_lt _ (by omega)
        simp only [Array.getElem?_map, Array.getElem?_range, hmc, if_true, Option.map_some]
        rw [getElem!_pos zv.cells _ hmm]
        rw [← h3] at hv
        simp only [Array.length_toList] at hv
        rw [Array.getElem?_toList, Array.getElem?_eq_getElem hmm] at hv
        exact hv
      refine ⟨_, _, hrun, ?_⟩
      split at h
      · cases h
        have := own_new (L := L) hX hz0 hrow (grown_alloc X.w (.cells ((Array.range (cn * zs.length)).map (zv.cells[· % zv.cells.size]!)) te)) hget (cap := cn) (by simpa using hle) (by simp) r2
        simpa using this
      · split at h
        · rename_i hlcn
          cases h
          have hlc' : ln = cn := by omega
          subst hlc'
          have := frozen_new (L := L) hX hrow (grown_alloc X.w (.cells ((Array.range (ln * zs.length)).map (zv.cells[· % zv.cells.size]!)) te)) hget (f := false) (cap := ln) (by simp) (fun h => by cases h)
          simpa using this
        · cases h
    · cases h
  · cases h
end
end Go.Abs

/- Parts of slices; copying; lengths; least and greatest. -/
namespace Go.Abs

/-- An operand that may lack. -/
def ORel (X : Cx) (L : List Nat) : Option AV → Option Value → Prop
  | none, none => True
  | some a, some v => VRel X L a v
  | _, _ => False

section
variable {P : Program} {T : TT} (hT : TOk P T) {X : Cx} {L : List Nat}

theorem bound_run {d n : Nat} {o : Option AV} {v : Option Value} (h : bound d o = some n) (hr : ORel X L o v) :
    (v = none ∧ n = d) ∨ ∃ k i, v = some (.int k i) ∧ 0 ≤ i ∧ n = i.toNat := by
  unfold bound at h
  split at h
  · cases v with
    | none => cases h; exact .inl ⟨rfl, rfl⟩
    | some _ => simp [ORel] at hr
  · cases v with
    | none => simp [ORel] at hr
    | some v =>
      split at h
      · rename_i hi
        cases h
        simp only [ORel] at hr
        exact .inr ⟨_, _, by rw [hr.sc_inv], hi, rfl⟩
      · cases h
  · cases h

theorem sliceBound_run {k : IntKind} {i : Int} {y : Nat} {code : BoundsCode} (h0 : 0 ≤ i) (h : i.toNat ≤ y) (w : World) : (Instr.sliceBound (.int k i) y code).run P w = .ok i.toNat w := by
  have hc : 0 ≤ i ∧ i ≤ (y : Int) := by omega
  simp [Instr.sliceBound, asIntOf, hc]

/-- The bounds of a slice expression. -/
theorem sliceBounds_run {isS : Bool} {len cap l h : Nat} {lo hi : Option AV} {lv hv : Option Value} (hl : bound 0 lo = some l) (hh : bound len hi = some h) (rl : ORel X L lo lv) (rh : ORel X L hi hv)
    (h1 : l ≤ h) (h2 : h ≤ cap) (w : World) : (Instr.sliceBounds isS len cap lv hv none).run P w = .ok (l, h, cap) w := by
  rcases bound_run hl rl with ⟨rfl, rfl⟩ | ⟨k, i, rfl, hi0, rfl⟩
  · rcases bound_run hh rh with ⟨rfl, rfl⟩ | ⟨k', i', rfl, hi0', rfl⟩
    · simp [Instr.sliceBounds]
    · simp only [Instr.sliceBounds, Sem.run_bind, Sem.run_pure, Result.andThen_ok, sliceBound_run hi0' h2]
  · rcases bound_run hh rh with ⟨rfl, rfl⟩ | ⟨k', i', rfl, hi0', rfl⟩
    · simp only [Instr.sliceBounds, Sem.run_bind, Sem.run_pure, Result.andThen_ok, sliceBound_run hi0 h1]
    · simp only [Instr.sliceBounds, Sem.run_bind, Sem.run_pure, Result.andThen_ok, sliceBound_run hi0' h2, sliceBound_run hi0 h1]

theorem sliceBounds_run3 {isS : Bool} {len cap l h m d : Nat} {lo hi : Option AV} {mx : AV} {lv hv : Option Value} {mv : Value} (hl : bound 0 lo = some l) (hh : bound len hi = some h) (hm : bound d (some mx) = some m)
    (rl : ORel X L lo lv) (rh : ORel X L hi hv) (rm : VRel X L mx mv) (h1 : l ≤ h) (h2 : h ≤ m) (h3 : m ≤ cap) (w : World) (hsome : hi.isSome = true) :
    (Instr.sliceBounds isS len cap lv hv (some mv)).run P w = .ok (l, h, m) w := by
  rcases bound_run (v := some mv) hm rm with ⟨hn, _⟩ | ⟨km, im, hm1, hm0, rfl⟩
  · cases hn
  · cases hm1
    rcases bound_run hh rh with ⟨rfl, _⟩ | ⟨k', i', rfl, hi0', rfl⟩
    · cases hi with
      | none => cases hsome
      | some _ => simp [ORel] at rh
    · rcases bound_run hl rl with ⟨rfl, rfl⟩ | ⟨k, i, rfl, hi0, rfl⟩
      · simp only [Instr.sliceBounds, Sem.run_bind, Sem.run_pure, Result.andThen_ok, sliceBound_run hm0 h3, sliceBound_run hi0' h2]
      · simp only [Instr.sliceBounds, Sem.run_bind, Sem.run_pure, Result.andThen_ok, sliceBound_run hm0 h3, sliceBound_run hi0' h2, sliceBound_run hi0 h1]

/-- A part of a slice that nobody writes. -/
theorem part_rel {f f' : Bool} {z : Nat} {xs : List (List AV)} {a : Option Addr} {cap l h m : Nat} (hv : VRel X L (.sl f z xs) (.slice a xs.length cap)) (h1 : l ≤ h) (h2 : h ≤ xs.length) (h3 : h ≤ m)
    (hf : f' = true → m = h) : VRel X L (.sl f' z ((xs.drop l).take (h - l))) (.slice (if m = l then a else a.map (·.add (l * z))) (h - l) (m - l)) := by
  have hlen : ((xs.drop l).take (h - l)).length = h - l := by simp; omega
  by_cases he : h = l
  · subst he
    have : (xs.drop h).take (h - h) = [] := by simp
    rw [this, Nat.sub_self]
    exact .frz (.slE fun hh => by have := hf hh; omega)
  · obtain ⟨a', cap', hva, hc, hff, hne⟩ := hv.sl_inv
    cases hva
    obtain ⟨hz, ad, rfl, hs, hb, hM, hcell⟩ := hne (by rintro rfl; simp at h2; omega)
    rw [if_neg (by omega)]
    simp only [Option.map_some, add_none hs]
    have hex : ∀ i j, ∃ u, ∀ x c, ((xs.drop l).take (h - l))[i]? = some x → x[j]? = some c → X.w.cell? ⟨ad.block, ad.off + l * z + (i * z + j), none⟩ = some u ∧ u.oneCell' = true ∧ FRel X.w X.M c u := by
      intro i j
      by_cases hx : ∃ x c, ((xs.drop l).take (h - l))[i]? = some x ∧ x[j]? = some c
      · obtain ⟨x, c, hx, hc⟩ := hx
        have hx' := hx
        rw [List.getElem?_take] at hx'
        split at hx'
        · rw [List.getElem?_drop] at hx'
          obtain ⟨u, hu⟩ := hcell (l + i) j x c hx' hc
          refine ⟨u, fun x' c' hx2 hc2 => ?_⟩
          rw [hx] at hx2
          cases hx2
          rw [hc] at hc2
          cases hc2
          rw [show ad.off + l * z + (i * z + j) = ad.off + ((l + i) * z + j) by rw [Nat.add_mul]; omega]
          exact hu
        · cases hx'
      · exact ⟨undef, fun x c h1 h2 => absurd ⟨x, c, h1, h2⟩ hx⟩
    refine .frz (.sl (fun i j => (hex i j).choose) hlen.symm (by omega) (fun hh => by have := hf hh; omega) rfl hb hM (fun x hx => hz x (List.mem_of_mem_drop (List.mem_of_mem_take hx)))
      (fun i j x c h1 h2 => ((hex i j).choose_spec x c h1 h2).1) (fun i j x c h1 h2 => ((hex i j).choose_spec x c h1 h2).2.1) (fun i j x c h1 h2 => ((hex i j).choose_spec x c h1 h2).2.2))

include hT in
theorem aSlice_run (hX : X.Ok) {t : Nat} {x r : AV} {lo hi mx : Option AV} (h : aSlice T X.H t x lo hi mx = some r) {v : Value} {lv hv mv : Option Value} (hx : VRel X L x v) (rl : ORel X L lo lv) (rh : ORel X L hi hv)
    (rm : ORel X L mx mv) : ∃ q, (Instr.sliceAt t v lv hv mv).run P X.w = .ok q X.w ∧ VRel X L r q := by
  unfold aSlice at h
  split at h
  · rename_i n z g ha
    obtain ⟨e, i, d, hu, hi', hsz, _⟩ := hT.arr _ _ _ _ ha
    split at h
    · rename_i l hh k off hbl hbh
      split at h
      · rename_i hc
        obtain ⟨h1, h2, h3, h4⟩ := hc
        cases h
        obtain ⟨b, o, rfl, hsh⟩ := alive_addr hX h4 hx
        have hk := hx.bp_inv
        simp only [alive] at h4
        split at h4
        · rename_i cs hH
          obtain ⟨e', hE, hr⟩ := hX.hec hH
          cases e' <;> simp only [EntRel] at hr
          rename_i b'
          have hbb := hk.2.2 b' hE
          cases hbb
          cases mv with
          | some _ => simp [ORel] at rm
          | none =>
            have hne : ¬ (n = l) := by omega
            refine ⟨.slice (some ⟨b, off + l * z, none⟩) (hh - l) (n - l), ?_, .bxs rfl hk.1 fun b2 hb2 => ?_⟩
            · simp only [Instr.sliceAt, Sem.run_bind, run_underlying hu, Result.andThen_ok, Instr.sureAddr, Sem.run_pure, sliceBounds_run hbl hbh rl rh h1 h2, Go.sizeOf, typeInfo, run_program, hi', hsz, if_neg hne, add_at]
            · rw [hE] at hb2
              cases hb2
              exact ⟨_, rfl, by omega⟩
        · cases h4
      · cases h
    · cases h
  · rename_i hna
    split at h
    · cases h
    · rename_i z eb he
      obtain ⟨e, i, zv, hu, hii, hsz, _⟩ := hT.elem _ _ _ he
      split at h
      · split at h
        · rename_i hb1 hb2 hb3
          split at h
          · rename_i hsome
            cases h
            rw [hx.sc_inv]
            refine ⟨.slice none 0 0, ?_, .frz (.sc _)⟩
            cases mx with
            | none =>
              cases mv with
              | some _ => simp [ORel] at rm
              | none =>
                simp only [Instr.sliceAt, Sem.run_bind, run_underlying hu, Result.andThen_ok, Instr.slice, sliceBounds_run hb1 hb2 rl rh (Nat.le_refl _) (Nat.le_refl _), Go.sizeOf, typeInfo, run_program, hii, Sem.run_pure]
                rfl
            | some mx =>
              cases mv with
              | none => simp [ORel] at rm
              | some mv =>
                cases hi with
                | none => simp at hsome
                | some hi =>
                  simp only [Instr.sliceAt, Sem.run_bind, run_underlying hu, Result.andThen_ok, Instr.slice, sliceBounds_run3 hb1 hb2 hb3 rl rh rm (Nat.le_refl _) (Nat.le_refl _) (Nat.le_refl _) X.w rfl, Go.sizeOf, typeInfo, run_program, hii, Sem.run_pure]
                  rfl
          · cases h
        · cases h
      · rename_i f z' xs
        split at h
        · rename_i l hh hb1 hb2
          split at h
          · rename_i hc
            obtain ⟨rfl, h1, h2⟩ := hc
            obtain ⟨a, cap, rfl, hcap, hf, _⟩ := hx.sl_inv
            split at h
            · cases h
              cases mv with
              | some _ => simp [ORel] at rm
              | none =>
                refine ⟨.slice (if cap = l then a else a.map (·.add (l * z))) (hh - l) (cap - l), ?_, part_rel hx h1 h2 (by omega) fun hff => ?_⟩
                · simp only [Instr.sliceAt, Sem.run_bind, run_underlying hu, Result.andThen_ok, Instr.slice, sliceBounds_run hb1 hb2 rl rh h1 (Nat.le_trans h2 hcap), Go.sizeOf, typeInfo, run_program, hii, Sem.run_pure, hsz]
                · simp only [Bool.and_eq_true] at hff
                  rw [hf hff.1, Nat.eq_of_beq_eq_true hff.2]
            · rename_i m
              split at h
              · rename_i mm hbm
                split at h
                · rename_i hc
                  obtain ⟨h3, h4, h5⟩ := hc
                  cases h
                  cases mv with
                  | none => simp [ORel] at rm
                  | some mv =>
                    refine ⟨.slice (if mm = l then a else a.map (·.add (l * z))) (hh - l) (mm - l), ?_, part_rel hx h1 h2 h3 fun hff => Nat.eq_of_beq_eq_true hff⟩
                    simp only [Instr.sliceAt, Sem.run_bind, run_underlying hu, Result.andThen_ok, Instr.slice, sliceBounds_run3 hb1 hb2 hbm rl rh rm h1 h3 (Nat.le_trans h4 hcap) X.w h5, Go.sizeOf, typeInfo, run_program, hii, Sem.run_pure, hsz]
                · cases h
              · cases h
          · cases h
        · cases h
      · rename_i k off len vr
        split at h
        · rename_i vr' z' xs hk
          split at h
          · rename_i l hh hb1 hb2
            split at h
            · rename_i hc
              obtain ⟨rfl, rfl, h1, h2, h3⟩ := hc
              obtain ⟨e', hE, hr⟩ := hX.hec hk
              cases e' <;> simp only [EntRel] at hr
              rename_i hdr
              obtain ⟨hkl, hver, _, hsub⟩ := hx.os_inv
              replace hsub := hsub z xs hdr hk hE
              obtain ⟨hz, hl, hr⟩ := hr
              cases mv with
              | some _ => simp [ORel] at rm
              | none =>
                have hrun : ∀ a cap, v = .slice a len cap → len ≤ cap → (Instr.sliceAt t v lv hv none).run P X.w = .ok (.slice (if cap = l then a else a.map (·.add (l * z))) (hh - l) (cap - l)) X.w := by
                  intro a cap hv hc
                  subst hv
                  simp only [Instr.sliceAt, Sem.run_bind, run_underlying hu, Result.andThen_ok, Instr.slice, sliceBounds_run hb1 hb2 rl rh h1 (Nat.le_trans h2 hc), Go.sizeOf, typeInfo, run_program, hii, Sem.run_pure, hsz]
                rcases hr with ⟨a, rfl, rfl⟩ | ⟨b, cap, arr, ty, rfl, hm, hb, hs, hcap, _, _⟩
                · simp only [SubSl] at hsub
                  obtain ⟨rfl, rfl, rfl⟩ := hsub
                  have hl0 : l = 0 := by omega
                  have hh0 : hh = 0 := by omega
                  subst hl0
                  subst hh0
                  simp only [if_true] at h
                  cases h
                  refine ⟨_, hrun a 0 rfl (Nat.le_refl _), .os rfl hkl hver fun z' xs' hdr' hH' hE' => ?_⟩
                  rw [hk] at hH'
                  rw [hE] at hE'
                  cases hH'
                  cases hE'
                  exact ⟨rfl, rfl, by simp⟩
                · simp only [SubSl] at hsub
                  have hq := hrun _ _ hsub (by omega)
                  split at h
                  · rename_i hl0
                    subst hl0
                    cases h
                    refine ⟨_, hq, .os rfl hkl hver fun z' xs' hdr' hH' hE' => ?_⟩
                    rw [hk] at hH'
                    rw [hE] at hE'
                    cases hH'
                    cases hE'
                    simp only [SubSl, Nat.zero_mul, Nat.sub_zero]
                    split <;> simp [Addr.add]
                  · split at h
                    · rename_i hl0 hlt
                      cases h
                      rw [if_neg (by omega)] at hq
                      refine ⟨_, hq, .os rfl hkl hver fun z' xs' hdr' hH' hE' => ?_⟩
                      rw [hk] at hH'
                      rw [hE] at hE'
                      cases hH'
                      cases hE'
                      simp only [SubSl, Option.map_some, add_at, Nat.add_mul]
                      congr 1
                      omega
                    · rename_i hl0 hlt
                      cases h
                      have : hh - l = 0 := by omega
                      rw [this] at hq
                      exact ⟨_, hq, .frz (.slE (by simp))⟩
            · cases h
          · cases h
        · cases h
      · cases h

theorem aMin2_run {a b r : AV} (h : aMin2 a b = some r) {u v : Value} (hu : VRel X L a u) (hv : VRel X L b v) : ∃ q, (Builtin.min2 u v).run P X.w = .ok q X.w ∧ VRel X L r q := by
  unfold aMin2 at h
  split at h
  · split at h
    · cases h
      rw [hu.sc_inv, hv.sc_inv]
      exact ⟨_, rfl, .frz (.sc _)⟩
    · cases h
  · cases h

theorem aMax2_run {a b r : AV} (h : aMax2 a b = some r) {u v : Value} (hu : VRel X L a u) (hv : VRel X L b v) : ∃ q, (Builtin.max2 u v).run P X.w = .ok q X.w ∧ VRel X L r q := by
  unfold aMax2 at h
  split at h
  · split at h
    · cases h
      rw [hu.sc_inv, hv.sc_inv]
      exact ⟨_, rfl, .frz (.sc _)⟩
    · cases h
  · cases h

include hT in
theorem aLen_run (hX : X.Ok) {t : Nat} {a r : AV} (h : aLen T X.H t a = some r) {v : Value} (hv : VRel X L a v) {tys : Array TypeId} (h0 : tys[0]? = some t) (ty : TypeId) :
    ∃ q, (Builtin.len_ tys ty #[v]).run P X.w = .ok q X.w ∧ VRel X L r q := by
  unfold aLen at h
  split at h
  · rename_i n z g ha
    cases h
    obtain ⟨e, i, d, hu, _⟩ := hT.arr _ _ _ _ ha
    exact ⟨_, by simp [Builtin.len_, h0, run_underlying hu]; rfl, .frz (.sc _)⟩
  · split at h
    · cases h
    · rename_i z eb he
      obtain ⟨e, i, zv, hu, _⟩ := hT.elem _ _ _ he
      have hrun : ∀ a len cap, (Builtin.len_ tys ty #[.slice a len cap]).run P X.w = .ok (.int .i64 len) X.w := by
        intro a len cap
        simp [Builtin.len_, h0, run_underlying hu, goInt]
      split at h
      · cases h
        rw [hv.sc_inv]
        exact ⟨_, hrun _ _ _, .frz (.sc _)⟩
      · cases h
        obtain ⟨a, cap, rfl, _⟩ := hv.sl_inv
        exact ⟨_, hrun _ _ _, .frz (.sc _)⟩
      · rename_i k off len vr
        split at h
        · rename_i vr' z' xs hk
          split at h
          · rename_i hvr
            subst hvr
            cases h
            obtain ⟨e', hE, hr⟩ := hX.hec hk
            cases e' <;> simp only [EntRel] at hr
            rename_i hdr
            have hsub := hv.os_inv.2.2.2 z' xs hdr hk hE
            obtain ⟨hz, hl, hr⟩ := hr
            rcases hr with ⟨a, rfl, rfl⟩ | ⟨b, cap, arr, ty, rfl, _⟩
            · simp only [SubSl] at hsub
              obtain ⟨_, rfl, rfl⟩ := hsub
              exact ⟨_, hrun _ _ _, .frz (.sc _)⟩
            · simp only [SubSl] at hsub
              subst hsub
              exact ⟨_, hrun _ _ _, .frz (.sc _)⟩
          · cases h
        · cases h
      · rename_i k off len z'
        split at h
        · rename_i cs hk
          cases h
          obtain ⟨e', hE, hr⟩ := hX.hec hk
          cases e' <;> simp only [EntRel] at hr
          rename_i b
          obtain ⟨cap, rfl, _⟩ := hv.bxs_inv.2.2 b hE
          exact ⟨_, hrun _ _ _, .frz (.sc _)⟩
        · cases h
      · cases h

theorem SlAt.take {fl : Bool} {B : Nat → Prop} {z : Nat} {ys : List (List AV)} {a : Option Addr} {len cap n : Nat} (h : SlAt X fl B z ys (.slice a len cap)) (hn : n ≤ ys.length) : SlAt X fl B z (ys.take n) (.slice a n cap) := by
  obtain ⟨a', cap', he, hc, hne⟩ := h
  cases he
  refine ⟨a, cap, by simp [hn], by simp; omega, fun h => ?_⟩
  obtain ⟨ad, rfl, hs, hB, hr, hcell⟩ := hne (by rintro rfl; simp at h)
  refine ⟨ad, rfl, hs, hB, fun y hy => hr y (List.mem_of_mem_take hy), fun i j y c hy hc => hcell i j y c ?_ hc⟩
  rw [List.getElem?_take] at hy
  split at hy
  · exact hy
  · cases hy

include hT in
theorem aCopy_run (hX : X.Ok) {b0 t : Nat} {a b r : AV} {H' : List Ent} (h : aCopy T b0 X.H t a b = some (r, H')) {u v : Value} (hu : VRel X L a u) (hv : VRel X L b v) {tys : Array TypeId} (h0 : tys[0]? = some t) (ty : TypeId) :
    ∃ q w', (Builtin.copy_ tys ty #[u, v]).run P X.w = .ok q w' ∧ Step X L r H' q w' := by
  unfold aCopy at h
  split at h
  · cases h
  · rename_i z eb he
    obtain ⟨e, i, zv, hun, hi, hsz, hby, hzv, hzs, hzo⟩ := hT.elem _ _ _ he
    subst hsz
    split at h
    · cases h
    · rename_i py ys hel
      have hat := elemsOf_at hX hel hv
      split at h
      · rename_i k off len vr
        split at h
        · rename_i vr' z' xs hk
          split at h
          · rename_i hc
            obtain ⟨rfl, rfl, hle, hz, _⟩ := hc
            cases h
            obtain ⟨e', hE, hr⟩ := hX.hec hk
            cases e' <;> simp only [EntRel] at hr
            rename_i hdr
            obtain ⟨_, hl, hr⟩ := hr
            have hsub := hu.os_inv.2.2.2 _ _ _ hk hE
            obtain ⟨a2, c2, rfl, hc2, hne2⟩ := hat
            have hat : SlAt X py (fun _ => True) i.size ys (.slice a2 ys.length c2) := ⟨a2, c2, rfl, hc2, hne2⟩
            have hnmin : min ys.length len ≤ ys.length := Nat.min_le_left _ _
            obtain ⟨news, hnews, hnr⟩ := (hat.take hnmin).read (P := P) hz
            have hyl : (ys.take (min ys.length len)).length = min ys.length len := by simp
            have hfirst : ∀ w' : World, w'.heap = X.w.heap → (Builtin.firstCells i.size (min ys.length len) (.slice a2 ys.length c2)).run P w' = .ok news.toArray w' := by
              intro w' hw
              have := hnr w' hw
              rw [hyl] at this
              cases a2 <;> exact this
            have htk : ys.take len = ys.take (min ys.length len) := by
              rcases Nat.le_total ys.length len with h | h
              · rw [List.take_of_length_le h, Nat.min_eq_left h, List.take_length]
              · rw [Nat.min_eq_right h]
            have hrun : ∀ a cap w1, u = .slice a len cap → (match a with | some a => storeCells a news | none => pure ()).run P X.w = .ok () w1 →
                (Builtin.copy_ tys ty #[u, .slice a2 ys.length c2]).run P X.w = .ok (.int .i64 (min ys.length len : Nat)) w1 := by
              intro a cap w1 hua hst
              subst hua
              have hf := hfirst X.w rfl
              cases a with
              | none =>
                simp only [Sem.run_pure] at hst
                cases hst
                simp [Builtin.copy_, h0, run_underlying hun, sizeOf, typeInfo, hi, Builtin.lenOf, hf, goInt]
              | some ad =>
                simp only at hst
                simp [Builtin.copy_, h0, run_underlying hun, sizeOf, typeInfo, hi, Builtin.lenOf, hf, hst, goInt]
            have hcont : xs.take off ++ overlay (ys.take len) (xs.drop off) = xs.take off ++ ys.take (min ys.length len) ++ xs.drop (off + (ys.take (min ys.length len)).length) := by
              simp only [overlay, htk, List.drop_drop, List.append_assoc]
            rw [hcont]
            have hturn : ∀ hdr xs', Turns (.own vr i.size xs) (.own hdr) (.own vr i.size xs') (.own hdr) := fun _ _ => ⟨Nat.le_refl _, rfl, fun _ => rfl⟩
            rcases hr with ⟨a, rfl, rfl⟩ | ⟨bl, cap, arr, ty', rfl, hm, h2, h3, h5, h7, h6⟩
            · simp only [SubSl] at hsub
              obtain ⟨rfl, rfl, hu1⟩ := hsub
              have hn0 : news = [] := List.eq_nil_of_length_eq_zero (by rw [hnews.len, hyl]; simp)
              subst hn0
              refine ⟨_, X.w, hrun a 0 X.w hu1 (by cases a <;> simp [storeCells]), ?_⟩
              have hX' : Cx.put X X.w k (.own (.slice a 0 0)) (.own vr i.size (List.take 0 [] ++ List.take (min ys.length 0) ys ++ List.drop (0 + (List.take (min ys.length 0) ys).length) [])) (.own (.slice a 0 0)) =
                  Cx.put X X.w k (.own (.slice a 0 0)) (.own vr i.size []) (.own (.slice a 0 0)) := by simp
              refine ⟨Cx.put X X.w k (.own (.slice a 0 0)) (.own vr i.size []) (.own (.slice a 0 0)), rfl, by simp [Cx.put],
                Cx.put_ok hX hk hE (.refl _) (fun _ _ _ => rfl) (fun _ hb => .inl hb) (fun b hb => by cases a <;> simp [EC.blk] at hb) (hturn _ _) (fun _ => ⟨hz, by simp, .inl ⟨a, rfl, rfl⟩⟩),
                Cx.put_trans hX hk hE (.refl _) (fun _ _ _ => rfl) (fun _ hb => .inl hb) (hturn _ _), ?_⟩
              exact .frz (.sc _)
            · simp only [SubSl] at hsub
              have hnl : news.length = min ys.length len * i.size := by rw [hnews.len, hyl]
              have hfit : off * i.size + news.length ≤ arr.size := by
                rw [hnl, h3, ← Nat.add_mul]
                exact Nat.mul_le_mul_right _ (by omega)
              have hst := run_storeCells_at P bl (off * i.size) ty' news 0 arr X.w h2 (by simpa using hfit) hnews.one
              simp only [Nat.add_zero] at hst
              refine ⟨_, _, hrun _ _ _ hsub hst, ?_⟩
              have hset := setRow_heap X.w bl arr (arr.toList.take (off * i.size) ++ news ++ arr.toList.drop (off * i.size + news.length)).toArray ty' (0, 0) h2
              have hbl := (Array.getElem?_eq_some_iff.1 h2).1
              have hsz := setRow_size X.w bl (arr.toList.take (off * i.size) ++ news ++ arr.toList.drop (off * i.size + news.length)).toArray
              have hlat := later_setRow X.w bl (arr.toList.take (off * i.size) ++ news ++ arr.toList.drop (off * i.size + news.length)).toArray
              have hk1 : ∀ b', b' < X.w.heap.size → (EC.own (.slice (some ⟨bl, 0, none⟩) xs.length (cap + 1))).blk ≠ some b' →
                  (X.w.setRow bl (arr.toList.take (off * i.size) ++ news ++ arr.toList.drop (off * i.size + news.length)).toArray).heap[b']? = X.w.heap[b']? :=
                fun b' _ hne => setRow_other X.w bl b' _ (fun he => hne (by simp [EC.blk, he]))
              generalize X.w.setRow bl (arr.toList.take (off * i.size) ++ news ++ arr.toList.drop (off * i.size + news.length)).toArray = w1 at *
              have hxl : (xs.take off ++ ys.take (min ys.length len) ++ xs.drop (off + (ys.take (min ys.length len)).length)).length = xs.length := by
                simp
                omega
              have hb2 : ∀ b', (EC.own (.slice (some ⟨bl, 0, none⟩) xs.length (cap + 1))).blk = some b' → b' < w1.heap.size := fun b' hb' => by
                simp only [EC.blk, Option.some.injEq] at hb'; rw [hsz]; omega
              refine ⟨Cx.put X w1 k (.own (.slice (some ⟨bl, 0, none⟩) xs.length (cap + 1))) (.own vr i.size (xs.take off ++ ys.take (min ys.length len) ++ xs.drop (off + (ys.take (min ys.length len)).length))) (.own (.slice (some ⟨bl, 0, none⟩) xs.length (cap + 1))), rfl, rfl,
                Cx.put_ok hX hk hE hlat hk1 (fun _ hb => .inl hb) hb2 (hturn _ _) (fun t => ⟨hz, fun y hy => ?_, .inr ⟨bl, cap, _, ty', by rw [hxl], .inr rfl, hset, ?_, by rw [hxl]; exact h5, fun j q hq => ?_, fun i' j y c hy hcc => ?_⟩⟩),
                Cx.put_trans hX hk hE hlat hk1 (fun _ hb => .inl hb) (hturn _ _), .frz (.sc _)⟩
              · rcases List.mem_append.1 hy with hy | hy
                · rcases List.mem_append.1 hy with hy | hy
                  · exact hl y (List.mem_of_mem_take hy)
                  · exact hnews.row y hy
                · exact hl y (List.mem_of_mem_drop hy)
              · simp
                omega
              · simp only [List.getElem?_toArray] at hq
                rw [splice_get (by simpa using hfit)] at hq
                split at hq
                · exact h7 _ _ (by simpa using hq)
                · split at hq
                  · exact hnews.one _ (List.mem_of_getElem? hq)
                  · exact h7 _ _ (by simpa using hq)
              · simp only [List.getElem?_toArray]
                rw [splice_get (by simpa using hfit)]
                rw [splice_get (by rw [hyl]; omega), hyl] at hy
                have hj := (List.getElem?_eq_some_iff.1 hcc).1
                by_cases hi1 : i' < off
                · rw [if_pos hi1] at hy
                  obtain ⟨q, h8, h9⟩ := h6 i' j y c hy hcc
                  rw [hl y (List.mem_of_getElem? hy)] at hj
                  have : (i' + 1) * i.size ≤ off * i.size := Nat.mul_le_mul_right _ hi1
                  rw [Nat.add_mul] at this
                  rw [if_pos (by omega)]
                  exact ⟨q, by simpa using h8, h9.trans t hX⟩
                · rw [if_neg hi1] at hy
                  have hoff : off * i.size ≤ i' * i.size := Nat.mul_le_mul_right _ (by omega)
                  by_cases hi2 : i' < off + min ys.length len
                  · rw [if_pos hi2] at hy
                    obtain ⟨q, h8, h9, _⟩ := hnews.rel (i' - off) j y c hy hcc
                    rw [hnews.row y (List.mem_of_getElem? hy)] at hj
                    have h10 : (i' - off) * i.size + j = i' * i.size + j - off * i.size := by rw [Nat.sub_mul]; omega
                    have h11 := (List.getElem?_eq_some_iff.1 h8).1
                    rw [if_neg (by omega), if_pos (by omega), ← h10]
                    exact ⟨q, h8, h9.trans t hX⟩
                  · rw [if_neg hi2] at hy
                    obtain ⟨q, h8, h9⟩ := h6 i' j y c hy hcc
                    have : (off + min ys.length len) * i.size ≤ i' * i.size := Nat.mul_le_mul_right _ (by omega)
                    rw [Nat.add_mul] at this
                    rw [if_neg (by omega), if_neg (by omega)]
                    exact ⟨q, by simpa using h8, h9.trans t hX⟩
          · cases h
        · cases h
      · cases h
end
end Go.Abs

/- Lending and handing back: slices that are written no more. -/
namespace Go.Abs

section
variable {X : Cx} {L : List Nat}

/-- Read where the slice lies, it is a slice that nobody writes. -/
theorem SlAt.frel {B : Nat → Prop} {z : Nat} {ys : List (List AV)} {v : Value} (h : SlAt X true B z ys v) {w : World} {M : Nat → Prop} (hw : w.heap = X.w.heap) (hM : ∀ b, M b → X.M b)
    (hB : ∀ b, B b → b < X.w.heap.size ∧ ¬ M b) : FRel w M (.sl false z ys) v := by
  obtain ⟨a, cap, rfl, hc, hne⟩ := h
  by_cases hys : ys = []
  · subst hys
    exact .slE (by simp)
  · obtain ⟨ad, rfl, hs, hb, hrow, hcell⟩ := hne hys
    have hk : ∀ {a : AV} {v : Value}, FRel X.w X.M a v → FRel w M a v := fun h => h.keep (by rw [hw]; exact Nat.le_refl _) fun b _ hm => ⟨by rw [hw], fun h => hm (hM b h)⟩
    have hex : ∀ i j, ∃ u, ∀ x c, ys[i]? = some x → x[j]? = some c → X.w.cell? ⟨ad.block, ad.off + (i * z + j), none⟩ = some u ∧ u.oneCell' = true ∧ FRel X.w X.M c u := by
      intro i j
      by_cases hx : ∃ x c, ys[i]? = some x ∧ x[j]? = some c
      · obtain ⟨x, c, hx, hc⟩ := hx
        obtain ⟨u, h1, h2, _, h3⟩ := hcell i j x c hx hc
        refine ⟨u, fun x' c' hx2 hc2 => ?_⟩
        rw [hx] at hx2
        cases hx2
        rw [hc] at hc2
        cases hc2
        exact ⟨h1, h2, h3 rfl⟩
      · exact ⟨undef, fun x c h1 h2 => absurd ⟨x, c, h1, h2⟩ hx⟩
    obtain ⟨h1, h2⟩ := hB _ hb
    refine .sl (fun i j => (hex i j).choose) rfl hc (by simp) hs (by rw [hw]; exact h1) h2 hrow (fun i j x c h1 h2 => ?_)
      (fun i j x c h1 h2 => ((hex i j).choose_spec x c h1 h2).2.1) (fun i j x c h1 h2 => hk ((hex i j).choose_spec x c h1 h2).2.2)
    have := ((hex i j).choose_spec x c h1 h2).1
    simp only [World.cell?, hw] at this ⊢
    exact this

/-- The context of a call to which all memory is lent. -/
def Cx.lent (X : Cx) : Cx := { w := X.w, M := fun b => X.M b ∧ ¬ X.holds b, E := [], H := [] }
/-- The context of a call that is handed no memory of ours. -/
def Cx.bare (X : Cx) : Cx := { w := X.w, M := X.M, E := [], H := [] }

theorem Cx.lent_ok (hX : X.Ok) : X.lent.Ok where
  len := rfl
  bnd := fun b hm => hX.bnd b hm.1
  ent := fun k h e hH _ => by simp [Cx.lent] at hH
  apart := fun i j e e' b hi _ => by simp [Cx.lent] at hi
theorem Cx.bare_ok (hX : X.Ok) : X.bare.Ok where
  len := rfl
  bnd := hX.bnd
  ent := fun k h e hH _ => by simp [Cx.bare] at hH
  apart := fun i j e e' b hi _ => by simp [Cx.bare] at hi

theorem lend_run (hX : X.Ok) {a r : AV} (h : lend X.H a = some r) {v : Value} (hv : VRel X L a v) : FRel X.lent.w X.lent.M r v := by
  unfold lend at h
  split at h
  · rename_i hp
    cases h
    exact (hv.pure hp).keep (Nat.le_refl _) fun b _ hm => ⟨rfl, fun h => hm h.1⟩
  · split at h
    · rename_i p z xs hs
      split at h
      · rename_i hp
        cases h
        subst hp
        exact (snap_at hX hs hv).frel rfl (fun b h => h.1) fun b hb => ⟨hb.1, fun h => by
          rcases hb.2 with h1 | ⟨k, e, _, hE, he⟩
          · exact h1 h.1
          · exact h.2 ⟨k, e, hE, he⟩⟩
      · cases h
    · cases h

theorem flat_any {X X' : Cx} {L L' : List Nat} {a : AV} {v : Value} (hv : VRel X L a v) (h : AV.flat a = true) : VRel X' L' a v := by
  have flatL_get : ∀ {cs : List AV}, AV.flatL cs = true → ∀ (i : Nat) c, cs[i]? = some c → AV.flat c = true := by
    intro cs
    induction cs with
    | nil => intro _ i c hc; simp at hc
    | cons x cs ih =>
      intro h i c hc
      simp only [AV.flatL, Bool.and_eq_true] at h
      cases i with
      | zero => simp at hc; exact hc ▸ h.1
      | succ i => exact ih h.2 i c (by simpa using hc)
  have frz : ∀ {a : AV} {v : Value}, FRel X.w X.M a v → AV.flat a = true → VRel X' L' a v := by
    intro a v hf
    induction hf with
    | und v => intro h; simp [AV.flat] at h
    | sc v => intro _; exact .frz (.sc _)
    | agg hl h1 _ ih => intro h; exact .agg hl h1 fun i c v hc hv => ih i c v hc hv (flatL_get h i c hc)
    | tup hl _ ih => intro h; exact .tup hl fun i c v hc hv => ih i c v hc hv (flatL_get h i c hc)
    | fn => intro h; simp [AV.flat] at h
    | ifc => intro h; simp [AV.flat] at h
    | slE => intro h; simp [AV.flat] at h
    | nsl => intro h; simp [AV.flat] at h
    | sl => intro h; simp [AV.flat] at h
    | fp => intro h; simp [AV.flat] at h
  induction hv with
  | frz hf => exact frz hf h
  | agg hl h1 _ ih => exact .agg hl h1 fun i c v hc hv => ih i c v hc hv (flatL_get h i c hc)
  | tup hl _ ih => exact .tup hl fun i c v hc hv => ih i c v hc hv (flatL_get h i c hc)
  | fn => simp [AV.flat] at h
  | ifc => simp [AV.flat] at h
  | yl => simp [AV.flat] at h
  | bp => simp [AV.flat] at h
  | bxs => simp [AV.flat] at h
  | os => simp [AV.flat] at h
  | op => simp [AV.flat] at h

theorem mapO_get {α β : Type} {f : α → Option β} : ∀ {l : List α} {r : List β}, mapO f l = some r → r.length = l.length ∧ ∀ (i : Nat) y, r[i]? = some y → ∃ x, l[i]? = some x ∧ f x = some y
  | [], r, h => by
    simp only [mapO, Option.some.injEq] at h
    subst h
    simp
  | x :: l, r, h => by
    simp only [mapO] at h
    obtain ⟨y, h1, h2⟩ := Option.bind_eq_some_iff.1 h
    obtain ⟨r', h3, rfl⟩ := Option.map_eq_some_iff.1 h2
    obtain ⟨h4, h5⟩ := mapO_get h3
    refine ⟨by simp [h4], fun i z hz => ?_⟩
    cases i with
    | zero => simp at hz; exact ⟨x, rfl, hz ▸ h1⟩
    | succ i => exact h5 i z (by simpa using hz)

/-- What is handed back, in the context without the call's own entities. -/
theorem freeze_run (hX : X.Ok) {n : Nat} : ∀ (d : Nat) (a r : AV) (v : Value) (L : List Nat), AV.freeze n X.H d a = some r → VRel X L a v → VRel (X.cut n) L r v
  | 0, _, _, _, _, h, _ => by simp [AV.freeze] at h
  | d + 1, a, r, v, L, h, hv => by
    have under : (if AV.under n a = true then some a else none) = some r → VRel (X.cut n) L r v := by
      intro h
      split at h
      · rename_i hu
        cases h
        exact hv.cut hu
      · cases h
    have cells : ∀ {cs rs : List AV} {vs : Array Value}, mapO (AV.freeze n X.H d) cs = some rs → vs.size = cs.length → (∀ (i : Nat) c v, cs[i]? = some c → vs[i]? = some v → VRel X L c v) →
        vs.size = rs.length ∧ ∀ (i : Nat) c v, rs[i]? = some c → vs[i]? = some v → VRel (X.cut n) L c v := by
      intro cs rs vs hm hl hp
      obtain ⟨h1, h2⟩ := mapO_get hm
      refine ⟨by omega, fun i c v hc hv => ?_⟩
      obtain ⟨x, hx, hf⟩ := h2 i c hc
      exact freeze_run hX d x c v L hf (hp i x v hx hv)
    have ofk : ∀ k, n ≤ k → ∀ a, ((∃ off len vr, a = AV.os k off len vr) ∨ ∃ off len z, a = AV.bxs k off len z) → ∀ b, OfSl X a b → b < X.w.heap.size ∧ ¬ (X.cut n).M b := by
      intro k hk a ha b hb
      refine ⟨hb.1, fun hm => ?_⟩
      rcases hb.2 with h1 | ⟨k', e, hk', hE, he⟩
      · exact h1 hm.1
      · have : k' = k := by
          rcases ha with ⟨_, _, _, rfl⟩ | ⟨_, _, _, rfl⟩
          · rcases hk' with ⟨_, _, _, h⟩ | ⟨_, _, _, h⟩
            · cases h; rfl
            · cases h
          · rcases hk' with ⟨_, _, _, h⟩ | ⟨_, _, _, h⟩
            · cases h
            · cases h; rfl
        subst this
        exact hm.2 k' e hk hE he
    simp only [AV.freeze] at h
    split at h
    · rename_i k off len vr
      split at h
      · rename_i hk
        cases h
        exact hv.cut (by simpa [AV.under] using hk)
      · rename_i hk
        obtain ⟨⟨p, z, xs⟩, hs, h⟩ := Option.bind_eq_some_iff.1 h
        obtain ⟨ys, hys, rfl⟩ := Option.map_eq_some_iff.1 h
        obtain ⟨hlen, hrow⟩ := mapO_get hys
        have hat := snap_at hX hs hv
        obtain ⟨a, cap, rfl, hc, hne⟩ := hat
        simp only at hlen hrow
        by_cases hnil : xs = []
        · subst hnil
          have : ys = [] := List.eq_nil_of_length_eq_zero (by simpa using hlen)
          subst this
          exact .frz (.slE (by simp))
        · obtain ⟨ad, rfl, hsp, hb, hz, hcell⟩ := hne hnil
          obtain ⟨hb1, hb2⟩ := ofk k (by omega) _ (.inl ⟨_, _, _, rfl⟩) _ hb
          have hex : ∀ i j, ∃ u, ∀ y c, ys[i]? = some y → y[j]? = some c → X.w.cell? ⟨ad.block, ad.off + (i * z + j), none⟩ = some u ∧ u.oneCell' = true ∧ FRel (X.cut n).w (X.cut n).M c u := by
            intro i j
            by_cases hy : ∃ y c, ys[i]? = some y ∧ y[j]? = some c
            · obtain ⟨y, c, hy, hc⟩ := hy
              obtain ⟨x, hx, hfx⟩ := hrow i y hy
              split at hfx
              · rename_i hp
                cases hfx
                obtain ⟨u, h1, h2, h3, _⟩ := hcell i j _ c hx hc
                refine ⟨u, fun y' c' hy2 hc2 => ?_⟩
                rw [hy] at hy2
                cases hy2
                rw [hc] at hc2
                cases hc2
                exact ⟨h1, h2, (h3.pure (pureL_get hp j c hc)).cut⟩
              · obtain ⟨y2, hm, hfx⟩ := Option.bind_eq_some_iff.1 hfx
                split at hfx
                · rename_i hp
                  cases hfx
                  obtain ⟨hl2, hg⟩ := mapO_get hm
                  obtain ⟨c0, hc0, hf0⟩ := hg j c hc
                  obtain ⟨u, h1, h2, h3, _⟩ := hcell i j x c0 hx hc0
                  refine ⟨u, fun y' c' hy2 hc2 => ?_⟩
                  rw [hy] at hy2
                  cases hy2
                  rw [hc] at hc2
                  cases hc2
                  exact ⟨h1, h2, (freeze_run hX d c0 c u [] hf0 h3).pure (pureL_get hp j c hc)⟩
                · cases hfx
            · exact ⟨undef, fun y c h1 h2 => absurd ⟨y, c, h1, h2⟩ hy⟩
          refine .frz (.sl (fun i j => (hex i j).choose) hlen.symm (by omega) (by simp) hsp hb1 hb2 (fun y hy => ?_) (fun i j y c h1 h2 => ((hex i j).choose_spec y c h1 h2).1)
            (fun i j y c h1 h2 => ((hex i j).choose_spec y c h1 h2).2.1) (fun i j y c h1 h2 => ((hex i j).choose_spec y c h1 h2).2.2))
          obtain ⟨i, hi⟩ := List.mem_iff_getElem?.1 hy
          obtain ⟨x, hx, hfx⟩ := hrow i y hi
          split at hfx
          · cases hfx
            exact hz _ (List.mem_of_getElem? hx)
          · obtain ⟨y2, hm, hfx⟩ := Option.bind_eq_some_iff.1 hfx
            split at hfx
            · cases hfx
              rw [(mapO_get hm).1]
              exact hz x (List.mem_of_getElem? hx)
            · cases hfx
    · rename_i k off len z
      split at h
      · rename_i hk
        cases h
        exact hv.cut (by simpa [AV.under] using hk)
      · rename_i hk
        obtain ⟨⟨p, z', xs⟩, hs, rfl⟩ := Option.map_eq_some_iff.1 h
        have hp : p = true := by
          simp only [snap] at hs
          split at hs
          · split at hs
            · cases hs; rfl
            · cases hs
          · cases hs
        subst hp
        exact .frz ((snap_at hX hs hv).frel rfl (fun b h => h.1) fun b hb => ofk k (by omega) _ (.inr ⟨_, _, _, rfl⟩) b hb)
    · rename_i cs
      obtain ⟨rs, hm, rfl⟩ := Option.map_eq_some_iff.1 h
      obtain ⟨vs, rfl, hl, h1, hp⟩ := hv.agg_inv
      obtain ⟨q1, q2⟩ := cells hm hl hp
      exact .agg q1 h1 q2
    · rename_i cs
      obtain ⟨rs, hm, rfl⟩ := Option.map_eq_some_iff.1 h
      obtain ⟨vs, rfl, hl, hp⟩ := hv.tup_inv
      obtain ⟨q1, q2⟩ := cells hm hl hp
      exact .tup q1 q2
    · rename_i t u
      obtain ⟨r', hm, rfl⟩ := Option.map_eq_some_iff.1 h
      obtain ⟨u', rfl, hp⟩ := hv.ifc_inv
      exact .ifc (freeze_run hX d u r' u' L hm hp)
    · exact under h
end
end Go.Abs

