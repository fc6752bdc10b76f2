/- Evaluating by rewriting. -/
import Derived.Test.YtlphdiccffnckaaPrg
namespace Go.Abs

section
variable (E : Env) (C : CF) (Y : List YF)

noncomputable def dn (w : Words) (c : Code) (st : St) : Option (Ex × St) := den E C Y loopS (annot w c) st
noncomputable def thenC (w : Words) (r : Option (Ex × St)) (b : Code) : Option (Ex × St) := match r with
  | some (.normal, st) => dn E C Y w b st
  | r => r
noncomputable def condC (w : Words) (v : AV) (a b : Code) (st : St) : Option (Ex × St) := match v with
  | .sc (.bool t) => if t then dn E C Y w a st else dn E C Y w b st
  | _ => none
def blockC (id : Nat) (r : Option (Ex × St)) : Option (Ex × St) := match r with
  | some (.exit id', st) => if id' = id then some (.normal, st) else some (.exit id', st)
  | r => r
noncomputable def loopC (w : Words) (a : Code) : St → Option (Ex × St) := loopS (dn E C Y w a)
def drawC (d : Bool) (r : Option (Ex × St)) : Option (Ex × St) := match r with
  | some (.normal, st') => some (.normal, st')
  | some (ex, st') => if d then none else some (ex, st')
  | none => none
def opsC (fl : List (Nat × Nat × Fl)) (id : Nat) (all : List Oper) (i : Nat) (os : List Oper) (st : St) : Option (Ex × St) := runOps E C Y (annOps fl id all i os) st
noncomputable def ghC (w : Words) (gh : List (Nat × Ghost)) (id : Nat) (ops : List Oper) (d : Bool) (st : St) : Option (Ex × St) :=
  den E C Y loopS (ghostAt gh id (.region id (annOps w.fl id ops 0 ops) d)) st
noncomputable def ghK (w : Words) (gh : List (Nat × Ghost)) (id : Nat) (ops : List Oper) (d : Bool) (r : Option St) : Option (Ex × St) := match r with
  | some st => ghC E C Y w gh id ops d st
  | none => none
/-- An operation. -/
def opD (f : Fl) (op : Op) (tm : Slots) (b : Nat) (H : List Ent) : Option OR := aopW E C Y (aval E.G tm) { o := { dst := none, op := op, type := 0, pos := "", after := #[], guard := none }, f := f, g := none } b H
/-- On from an operation's answer. -/
def opK (fl : List (Nat × Nat × Fl)) (id : Nat) (all : List Oper) (i : Nat) (os : List Oper) (dst : Option Nat) (st : St) (r : Option OR) : Option (Ex × St) := match r with
  | some (.val v H) => opsC E C Y fl id all i os { st with tm := setDst dst v st.tm, H := H }
  | some (.pan v H) => some (.pan v, { st with H := H })
  | none => none
/-- A guarded operation. -/
def opG (fl : List (Nat × Nat × Fl)) (id : Nat) (all : List Oper) (i : Nat) (os : List Oper) (o : Oper) (v : AV) (want : Bool) (st : St) : Option (Ex × St) := match v with
  | .sc (.bool t) => if t = want then opK E C Y fl id all (i + 1) os o.dst st (opD E C Y (flagAt fl id i) o.op st.tm st.b st.H) else opsC E C Y fl id all (i + 1) os { st with tm := setDst o.dst (.sc undef) st.tm }
  | .sc (.tuple _) => opsC E C Y fl id all (i + 1) os { st with tm := setDst o.dst (.sc undef) st.tm }
  | _ => none
end

section
variable {E : Env} {C : CF} {Y : List YF} {w : Words} {fl : List (Nat × Nat × Fl)} {id : Nat} {all os ops : List Oper} {i : Nat} {st : St} {d : Bool}

@[congr] theorem thenC_congr {r r' : Option (Ex × St)} {b : Code} (h : r = r') : thenC E C Y w r b = thenC E C Y w r' b := by rw [h]
@[congr] theorem condC_congr {v v' : AV} {a b : Code} (h : v = v') : condC E C Y w v a b st = condC E C Y w v' a b st := by rw [h]
@[congr] theorem ghK_congr {gh : List (Nat × Ghost)} {r r' : Option St} (h : r = r') : ghK E C Y w gh id ops d r = ghK E C Y w gh id ops d r' := by rw [h]
@[congr] theorem opK_congr {dst : Option Nat} {r r' : Option OR} (h : r = r') : opK E C Y fl id all i os dst st r = opK E C Y fl id all i os dst st r' := by rw [h]
@[congr] theorem opG_congr {o : Oper} {v v' : AV} {want : Bool} (h : v = v') : opG E C Y fl id all i os o v want st = opG E C Y fl id all i os o v' want st := by rw [h]
@[congr] theorem dn_congr {c : Code} {st' : St} (h : st = st') : dn E C Y w c st = dn E C Y w c st' := by rw [h]
@[congr] theorem opsC_congr {st' : St} (h : st = st') : opsC E C Y fl id all i os st = opsC E C Y fl id all i os st' := by rw [h]
@[congr] theorem ghC_congr {gh : List (Nat × Ghost)} {st' : St} (h : st = st') : ghC E C Y w gh id ops d st = ghC E C Y w gh id ops d st' := by rw [h]
@[congr] theorem loopC_congr {a : Code} {st' : St} (h : st = st') : loopC E C Y w a st = loopC E C Y w a st' := by rw [h]

@[go_sem] theorem dn_skip : dn E C Y w .skip st = some (.normal, st) := rfl
@[go_sem] theorem dn_exit (id : Nat) : dn E C Y w (.exit id) st = some (.exit id, st) := rfl
@[go_sem] theorem dn_ret : dn E C Y w .ret st = some (.ret, st) := rfl
@[go_sem ↓] theorem dn_seq (a b : Code) : dn E C Y w (.seq a b) st = thenC E C Y w (dn E C Y w a st) b := rfl
@[go_sem ↓] theorem dn_cond (c : Operand) (a b : Code) : dn E C Y w (.cond c a b) st = condC E C Y w (aval E.G st.tm c) a b st := rfl
@[go_sem ↓] theorem dn_block (id : Nat) (a : Code) : dn E C Y w (.block id a) st = blockC id (dn E C Y w a st) := rfl
@[go_sem ↓] theorem dn_loop (a : Code) : dn E C Y w (.loop a) st = loopC E C Y w a st := rfl
@[go_sem ↓] theorem dn_region (ops : List Oper) : dn E C Y w (.region id ⟨ops⟩ d) st = ghC E C Y w w.gh id ops d st := rfl
@[go_sem] theorem thenC_normal {b : Code} : thenC E C Y w (some (.normal, st)) b = dn E C Y w b st := rfl
@[go_sem] theorem thenC_exit {b : Code} {id : Nat} : thenC E C Y w (some (.exit id, st)) b = some (.exit id, st) := rfl
@[go_sem] theorem thenC_ret {b : Code} : thenC E C Y w (some (.ret, st)) b = some (.ret, st) := rfl
@[go_sem] theorem thenC_pan {b : Code} {v : AV} : thenC E C Y w (some (.pan v, st)) b = some (.pan v, st) := rfl
@[go_sem] theorem condC_true {a b : Code} : condC E C Y w (.sc (.bool true)) a b st = dn E C Y w a st := rfl
@[go_sem] theorem condC_false {a b : Code} : condC E C Y w (.sc (.bool false)) a b st = dn E C Y w b st := rfl
@[go_sem] theorem blockC_normal {id : Nat} : blockC id (some (.normal, st)) = some (.normal, st) := rfl
@[go_sem] theorem blockC_ret {id : Nat} : blockC id (some (.ret, st)) = some (.ret, st) := rfl
@[go_sem] theorem blockC_pan {id : Nat} {v : AV} : blockC id (some (.pan v, st)) = some (.pan v, st) := rfl
@[go_sem] theorem blockC_exit {id id' : Nat} : blockC id (some (.exit id', st)) = if id' = id then some (.normal, st) else some (.exit id', st) := rfl
@[go_sem] theorem drawC_normal : drawC d (some (.normal, st)) = some (.normal, st) := rfl
@[go_sem] theorem drawC_pan {v : AV} : drawC false (some (.pan v, st)) = some (.pan v, st) := rfl
@[go_sem ↓] theorem ghC_nil : ghC E C Y w [] id ops d st = drawC d (opsC E C Y w.fl id ops 0 ops st) := rfl
@[go_sem ↓] theorem ghC_cons {r : Nat} {g : Ghost} {gh : List (Nat × Ghost)} : ghC E C Y w ((r, g) :: gh) id ops d st = if r = id then ghK E C Y w gh id ops d (ghost g st) else ghC E C Y w gh id ops d st := by
  unfold ghC ghK
  simp only [ghostAt]
  by_cases h : r = id
  · subst h
    simp only [Nat.beq_refl, if_true, cond_true, den]
    cases ghost g st <;> rfl
  · simp only [beq_ne h, if_neg h, cond_false]
@[go_sem] theorem ghK_some {gh : List (Nat × Ghost)} : ghK E C Y w gh id ops d (some st) = ghC E C Y w gh id ops d st := rfl
@[go_sem] theorem opsC_nil : opsC E C Y fl id all i [] st = some (.normal, st) := rfl
@[go_sem ↓] theorem opsC_cons {dst : Option Nat} {op : Op} {type : TypeId} {pos : String} {after : Array Edge} : opsC E C Y fl id all i ({ dst := dst, op := op, type := type, pos := pos, after := after, guard := none } :: os) st =
    opK E C Y fl id all (i + 1) os dst st (opD E C Y (flagAt fl id i) op st.tm st.b st.H) := by
  unfold opsC opK opD
  simp only [annOps, runOps, stepOp, guardSlot]
  have : aop E C Y { o := { dst := dst, op := op, type := type, pos := pos, after := after, guard := none }, f := flagAt fl id i, g := none } st.b st.tm st.H =
    aopW E C Y (aval E.G st.tm) { o := { dst := none, op := op, type := 0, pos := "", after := #[], guard := none }, f := flagAt fl id i, g := none } st.b st.H := rfl
  rw [this]
  cases aopW E C Y (aval E.G st.tm) { o := { dst := none, op := op, type := 0, pos := "", after := #[], guard := none }, f := flagAt fl id i, g := none } st.b st.H with
  | none => rfl
  | some r => cases r <;> rfl
@[go_sem ↓] theorem opsC_guard {dst : Option Nat} {op : Op} {type : TypeId} {pos : String} {after : Array Edge} {j : Nat} {want : Bool} :
    opsC E C Y fl id all i ({ dst := dst, op := op, type := type, pos := pos, after := after, guard := some (j, want) } :: os) st =
    match (all[j]?).bind (·.dst) with
    | some g => opG E C Y fl id all i os { dst := dst, op := op, type := 0, pos := "", after := #[], guard := none } (st.tm.get g) want st
    | none => opsC E C Y fl id all i ({ dst := dst, op := op, type := type, pos := pos, after := after, guard := some (j, want) } :: os) st := by
  cases hg : (all[j]?).bind (·.dst) with
  | none => rfl
  | some g =>
    unfold opsC opG opK opD
    simp only [annOps, runOps, stepOp, guardSlot, hg]
    have : aop E C Y { o := { dst := dst, op := op, type := type, pos := pos, after := after, guard := some (j, want) }, f := flagAt fl id i, g := some (g, want) } st.b st.tm st.H =
          aopW E C Y (aval E.G st.tm) { o := { dst := none, op := op, type := 0, pos := "", after := #[], guard := none }, f := flagAt fl id i, g := none } st.b st.H := rfl
    rw [this]
    generalize st.tm.get g = v
    cases v with
    | sc u =>
      cases u with
      | bool t =>
        by_cases ht : t = want
        · simp only [ht, if_true]
          cases aopW E C Y (aval E.G st.tm) { o := { dst := none, op := op, type := 0, pos := "", after := #[], guard := none }, f := flagAt fl id i, g := none } st.b st.H with
          | none => rfl
          | some r => cases r <;> rfl
        · simp only [ht, if_false]
          rfl
      | _ => rfl
    | _ => rfl
@[go_sem] theorem opK_val {dst : Option Nat} {v : AV} {H : List Ent} : opK E C Y fl id all i os dst st (some (.val v H)) = opsC E C Y fl id all i os { st with tm := setDst dst v st.tm, H := H } := rfl
@[go_sem] theorem opK_pan {dst : Option Nat} {v : AV} {H : List Ent} : opK E C Y fl id all i os dst st (some (.pan v H)) = some (.pan v, { st with H := H }) := rfl
theorem opG_bool {o : Oper} {t want : Bool} : opG E C Y fl id all i os o (.sc (.bool t)) want st =
    if t = want then opG E C Y fl id all i os o (.sc (.bool want)) want st else opG E C Y fl id all i os o (.sc (.bool !want)) want st := by
  cases t <;> cases want <;> rfl
@[go_sem] theorem opG_skip {o : Oper} {want : Bool} : opG E C Y fl id all i os o (.sc undef) want st = opsC E C Y fl id all (i + 1) os { st with tm := setDst o.dst (.sc undef) st.tm } := rfl
@[go_sem] theorem opG_tt {o : Oper} : opG E C Y fl id all i os o (.sc (.bool true)) true st = opK E C Y fl id all (i + 1) os o.dst st (opD E C Y (flagAt fl id i) o.op st.tm st.b st.H) := rfl
@[go_sem] theorem opG_ff {o : Oper} : opG E C Y fl id all i os o (.sc (.bool false)) false st = opK E C Y fl id all (i + 1) os o.dst st (opD E C Y (flagAt fl id i) o.op st.tm st.b st.H) := rfl
@[go_sem] theorem opG_tf {o : Oper} : opG E C Y fl id all i os o (.sc (.bool true)) false st = opsC E C Y fl id all (i + 1) os { st with tm := setDst o.dst (.sc undef) st.tm } := rfl
@[go_sem] theorem opG_ft {o : Oper} : opG E C Y fl id all i os o (.sc (.bool false)) true st = opsC E C Y fl id all (i + 1) os { st with tm := setDst o.dst (.sc undef) st.tm } := rfl
theorem condC_bool {a b : Code} {t : Bool} : condC E C Y w (.sc (.bool t)) a b st = if t = true then dn E C Y w a st else dn E C Y w b st := rfl

variable {f : Fl} {tm : Slots} {b : Nat} {H : List Ent} {t : Nat} {T : TT}

@[go_sem] theorem aval_tmp {G : Nat → AV} (k : Nat) : aval G tm (.tmp k) = tm.get k := rfl
@[go_sem] theorem aval_const {G : Nat → AV} (v : Value) : aval G tm (.const v) = .sc v := rfl
@[go_sem] theorem aval_func {G : Nat → AV} (g : Nat) : aval G tm (.func g) = .fn g [] := rfl
@[go_sem] theorem aval_global {G : Nat → AV} (g : Nat) : aval G tm (.global g) = G g := rfl
@[go_sem ↓] theorem get_cons (k : Nat) (v : AV) : Slots.get ((k, v) :: tm) t = if k = t then v else tm.get t := by
  by_cases h : k = t
  · subst h; simp [Slots.get]
  · simp [Slots.get, beq_ne h, h]
@[go_sem] theorem setDst_some (d : Nat) (v : AV) : setDst (some d) v tm = (d, v) :: tm := rfl
@[go_sem] theorem setDst_none (v : AV) : setDst none v tm = tm := rfl

@[go_sem] theorem opD_move (x : Operand) : opD E C Y f (.move x) tm b H = some (.val (aval E.G tm x) H) := rfl
@[go_sem] theorem opD_assign (x : Operand) : opD E C Y f (.assign x) tm b H = some (.val (aval E.G tm x) H) := rfl
@[go_sem] theorem opD_pick (c x y : Operand) : opD E C Y f (.pick c x y) tm b H = match aval E.G tm c with
    | .sc (.bool t) => some (.val (if t then aval E.G tm x else aval E.G tm y) H)
    | _ => none := rfl
@[go_sem] theorem opD_alloc : opD E C Y f (.alloc t) tm b H = match E.T.zero t with
    | some zs => some (.val (.bp H.length 0) (H ++ [.box (zs.map .sc)]))
    | none => none := rfl
@[go_sem] theorem opD_box (x : Operand) : opD E C Y f (.box t x) tm b H = match E.T.size t with
    | some (n, _) => if (aval E.G tm x).cells.length = n ∧ 0 < n ∧ AV.storable (aval E.G tm x) = true ∧ AV.still (aval E.G tm x) = true then some (.val (.bp H.length 0) (H ++ [.box (aval E.G tm x).cells])) else none
    | none => none := rfl
@[go_sem] theorem opD_load (x : Operand) : opD E C Y .non (.load t x) tm b H = ok H (aLoad E.T H t (aval E.G tm x)) := rfl
@[go_sem] theorem opD_load_own (x : Operand) : opD E C Y .own (.load t x) tm b H = if (!(aval E.G tm x).isFp) = true then none else ok H (aLoad E.T H t (aval E.G tm x)) := rfl
@[go_sem] theorem opD_fieldAddr_own (x : Operand) (k : Nat) : opD E C Y .own (.fieldAddr t x k) tm b H = if (!(aval E.G tm x).isFp) = true then none else ok H (aField E.T H t k (aval E.G tm x)) := rfl
@[go_sem] theorem isFp_fp (cs : List AV) : (AV.fp cs).isFp = true := rfl
@[go_sem] theorem opD_store (x y : Operand) : opD E C Y f (.store t x y) tm b H = match aStore E.T b H t (aval E.G tm x) (aval E.G tm y) with
    | some H' => some (.val .und H')
    | none => none := rfl
@[go_sem] theorem opD_nilCheck (x : Operand) : opD E C Y f (.nilCheck x) tm b H = if alive H (aval E.G tm x) then some (.val (aval E.G tm x) H) else none := rfl
@[go_sem] theorem opD_binOp (op : BinOp) (x y : Operand) (yt : Nat) : opD E C Y f (.binOp op t x y yt) tm b H = ok H (aBin E.T op t (aval E.G tm x) (aval E.G tm y)) := rfl
@[go_sem] theorem opD_unOp (op : UnOp) (x : Operand) : opD E C Y f (.unOp op t x) tm b H = ok H (aUn op (aval E.G tm x)) := rfl
@[go_sem] theorem opD_convert (s d : Nat) (x : Operand) : opD E C Y f (.convert s d x) tm b H = ok H (aConv E.T s d (aval E.G tm x)) := rfl
@[go_sem] theorem opD_fieldAddr (x : Operand) (k : Nat) : opD E C Y .non (.fieldAddr t x k) tm b H = ok H (aField E.T H t k (aval E.G tm x)) := rfl
@[go_sem] theorem opD_field (x : Operand) (k : Nat) : opD E C Y f (.field t x k) tm b H = ok H (aFieldVal E.T t k (aval E.G tm x)) := rfl
@[go_sem] theorem opD_indexAddr (x y : Operand) : opD E C Y f (.indexAddr t x y) tm b H = ok H (aIndexAddr E.T H t (aval E.G tm x) (aval E.G tm y)) := rfl
@[go_sem] theorem opD_index (x y : Operand) : opD E C Y f (.index t x y) tm b H = ok H (aIndex E.T t (aval E.G tm x) (aval E.G tm y)) := rfl
@[go_sem] theorem opD_slice (x : Operand) (lo hi mx : Option Operand) : opD E C Y f (.slice t x lo hi mx) tm b H = ok H (aSlice E.T H t (aval E.G tm x) (lo.map (aval E.G tm)) (hi.map (aval E.G tm)) (mx.map (aval E.G tm))) := rfl
@[go_sem] theorem opD_makeSlice (x y : Operand) : opD E C Y f (.makeSlice t x y) tm b H = okH (aMake E.T (f == .own) H t (aval E.G tm x) (aval E.G tm y) (E.T.ezero t)) := rfl
@[go_sem] theorem opD_build (ps : List (Nat × Operand)) : opD E C Y f (.build t ⟨ps⟩) tm b H = ok H (aBuild E.T t (ps.map fun p => (p.1, aval E.G tm p.2))) := rfl
@[go_sem] theorem opD_makeFunc (g : Nat) (cs : List Operand) : opD E C Y f (.makeFunc (.func g) #[] ⟨cs⟩) tm b H = some (.val (.fn g (cs.map (aval E.G tm))) H) := rfl
@[go_sem] theorem opD_len (x : Operand) : opD E C Y f (.call { callee := .builtin .len, args := #[x], argTypes := #[t] }) tm b H = ok H (aLen E.T H t (aval E.G tm x)) := rfl
@[go_sem] theorem opD_call (g : Operand) (xs : List Operand) (ts : Array TypeId) : opD E C Y f (.call { callee := .value g, args := ⟨xs⟩, argTypes := ts }) tm b H = aCallFn C Y f H (aval E.G tm g) (xs.map (aval E.G tm)) := rfl
@[go_sem] theorem ok_some (v : AV) : Go.Abs.ok H (some v) = some (.val v H) := rfl
@[go_sem] theorem okH_some (v : AV) : okH (some (v, H)) = some (.val v H) := rfl

@[go_sem] theorem bin_lss (k : IntKind) (x y : Int) : aBin T .lss t (.sc (.int k x)) (.sc (.int k y)) = some (.sc (.bool (x < y))) := by simp [aBin, intBin]
@[go_sem] theorem bin_leq (k : IntKind) (x y : Int) : aBin T .leq t (.sc (.int k x)) (.sc (.int k y)) = some (.sc (.bool (x ≤ y))) := by simp [aBin, intBin]
@[go_sem] theorem bin_gtr (k : IntKind) (x y : Int) : aBin T .gtr t (.sc (.int k x)) (.sc (.int k y)) = some (.sc (.bool (x > y))) := by simp [aBin, intBin]
@[go_sem] theorem bin_geq (k : IntKind) (x y : Int) : aBin T .geq t (.sc (.int k x)) (.sc (.int k y)) = some (.sc (.bool (x ≥ y))) := by simp [aBin, intBin]
@[go_sem] theorem bin_eql (k : IntKind) (x y : Int) : aBin T .eql t (.sc (.int k x)) (.sc (.int k y)) = some (.sc (.bool (decide (x = y)))) := by simp only [aBin, intBin, if_true, Option.map_some]; rfl
@[go_sem] theorem bin_neq (k : IntKind) (x y : Int) : aBin T .neq t (.sc (.int k x)) (.sc (.int k y)) = some (.sc (.bool (!decide (x = y)))) := by simp only [aBin, intBin, if_true, Option.map_some]; rfl
@[go_sem] theorem bin_add (k : IntKind) (x y : Int) : aBin T .add t (.sc (.int k x)) (.sc (.int k y)) = some (.sc (.int k (k.wrap (x + y)))) := by simp [aBin, intBin]
@[go_sem] theorem bin_sub (k : IntKind) (x y : Int) : aBin T .sub t (.sc (.int k x)) (.sc (.int k y)) = some (.sc (.int k (k.wrap (x - y)))) := by simp [aBin, intBin]
@[go_sem] theorem bin_mul (k : IntKind) (x y : Int) : aBin T .mul t (.sc (.int k x)) (.sc (.int k y)) = some (.sc (.int k (k.wrap (x * y)))) := by simp [aBin, intBin]
@[go_sem] theorem un_not (x : Bool) : aUn .not (.sc (.bool x)) = some (.sc (.bool !x)) := rfl

@[go_sem] theorem load_bp (k off : Nat) : aLoad T H t (.bp k off) = match T.size t with
    | none => none
    | some (n, g) => match H[k]? with
      | some (.box cs) => valOf n g (cs.drop off)
      | _ => none := rfl
@[go_sem] theorem load_fp (cs : List AV) : aLoad T H t (.fp cs) = match T.size t with
    | none => none
    | some (n, g) => valOf n g cs := rfl
@[go_sem] theorem valOf_one (n : Nat) (c : AV) (cs : List AV) : valOf n false (c :: cs) = some c := rfl
@[go_sem] theorem valOf_agg (n : Nat) (cs : List AV) : valOf n true cs = if n ≤ cs.length then some (.agg (cs.take n)) else none := rfl
@[go_sem] theorem alive_fp (cs : List AV) : alive H (.fp cs) = true := rfl
@[go_sem] theorem alive_bp (k off : Nat) : alive H (.bp k off) = match H[k]? with
    | some (.box _) => true
    | _ => false := rfl
@[go_sem] theorem field_eq (k : Nat) (a : AV) : aField T H t k a = if alive H a then (T.fld t k).map fun r => a.shift r.1 else none := rfl
@[go_sem] theorem shift_bp (k off d : Nat) : (AV.bp k off).shift d = .bp k (off + d) := rfl
@[go_sem] theorem shift_fp (cs : List AV) (d : Nat) : (AV.fp cs).shift d = .fp (cs.drop d) := rfl
@[go_sem] theorem len_sl (fl : Bool) (z : Nat) (xs : List (List AV)) : aLen T H t (.sl fl z xs) = match T.arr t with
    | some (n, _, _) => some (.sc (.int .i64 n))
    | none => match T.elem t with
      | none => none
      | some _ => some (.sc (.int .i64 xs.length)) := rfl
@[go_sem] theorem cells_agg (cs : List AV) : (AV.agg cs).cells = cs := rfl

/-- What a call hands back, from how its body was left. -/
def outC (T : TT) (rs : List ResultVar) (ad : Bool) (b : Nat) (r : Option (Ex × St)) : Option (Out × List Ent) := wayOut T { ac := .skip, ntmps := 0, results := rs, adopt := ad } b r
@[congr] theorem outC_congr {rs : List ResultVar} {ad : Bool} {r r' : Option (Ex × St)} (h : r = r') : outC T rs ad b r = outC T rs ad b r' := by rw [h]
def leaveC (ad : Bool) (b : Nat) (H : List Ent) (v : AV) : Option (Out × List Ent) :=
  if ad then some (.ret v, H) else if AV.pure v then some (.ret v, H.take b) else match AV.freeze b H 6 v with
    | some v => some (.ret v, H.take b)
    | none => none
@[go_sem] theorem outC_ret {rs : List ResultVar} {ad : Bool} : outC T rs ad b (some (.ret, st)) = match Go.Abs.results T st.tm st.H rs with
    | none => none
    | some vs => leaveC ad b st.H (pack vs) := by
  unfold outC wayOut leave leaveC
  simp only
  cases Go.Abs.results T st.tm st.H rs <;> rfl
@[go_sem] theorem outC_normal {rs : List ResultVar} {ad : Bool} : outC T rs ad b (some (.normal, st)) = outC T rs ad b (some (.ret, st)) := rfl
@[go_sem] theorem outC_pan {rs : List ResultVar} {ad : Bool} {v : AV} : outC T rs ad b (some (.pan v, st)) = if AV.under b v then some (.pan v, st.H.take b) else none := rfl
@[go_sem] theorem results_nil : Go.Abs.results T tm H [] = some [] := rfl
@[go_sem] theorem results_tmp {rs : List ResultVar} (k : Nat) : Go.Abs.results T tm H (.tmp k :: rs) = (Go.Abs.results T tm H rs).map (tm.get k :: ·) := rfl
@[go_sem] theorem results_cell {rs : List ResultVar} (k : Nat) : Go.Abs.results T tm H (.cell k t :: rs) = (aLoad T H t (tm.get k)).bind fun v => (Go.Abs.results T tm H rs).map (v :: ·) := rfl
@[go_sem] theorem pack_one (v : AV) : pack [v] = v := rfl
@[go_sem] theorem pack_two (v u : AV) (vs : List AV) : pack (v :: u :: vs) = .tup (v :: u :: vs) := rfl
@[go_sem] theorem pack_nil : pack [] = .tup [] := rfl

noncomputable def bodyOf (fn : Func) : Code := fn.body.getD .skip

/-- A call, by its body. -/
theorem callS_by {F : Nat → Option AFn} {g : Nat} {fn : Func} {rs : List ResultVar} (hA : F g = some (mkFn w fn (bodyOf fn))) (hr : fn.results = ⟨rs⟩) {args : List AV} {r : Out × List Ent}
    (h : outC E.T rs w.adopt H.length (dn E (callS E F) Y w (bodyOf fn) { tm := Slots.init 0 args, H := H, b := H.length }) = some r) : callS E F g args H Y = some r := by
  refine callS_of hA ?_
  unfold outC at h
  rw [← h]
  unfold wayOut leave mkFn dn
  simp only [hr]

@[go_sem] theorem index_sl (fl : Bool) (z : Nat) (xs : List (List AV)) (k : IntKind) (j : Int) : aIndexAddr T H t (.sl fl z xs) (.sc (.int k j)) = if j < 0 then none else match T.elem t with
    | some (z', _) => if z = z' then (xs[j.toNat]?).map .fp else none
    | none => none := rfl
attribute [go_sem] AV.storable AV.still AV.stillL AV.cells Value.oneCell' leaveC AV.pure AV.pureL Slots.init

theorem wrap64 {x : Int} (h : -9223372036854775808 ≤ x ∧ x < 9223372036854775808) : IntKind.wrap .i64 x = x := by
  unfold IntKind.wrap
  simp [IntKind.signed, IntKind.bits]
  omega

/-- On from a round. -/
noncomputable def nextC (E : Env) (C : CF) (Y : List YF) (w : Words) (a : Code) (r : Option (Ex × St)) : Option (Ex × St) := match r with
  | some (.normal, st') => loopC E C Y w a st'
  | r => r
@[congr] theorem nextC_congr {a : Code} {r r' : Option (Ex × St)} (h : r = r') : nextC E C Y w a r = nextC E C Y w a r' := by rw [h]
theorem loopC_eq {a : Code} : loopC E C Y w a st = nextC E C Y w a (dn E C Y w a st) := by
  show loopS (dn E C Y w a) st = _
  rw [loopS_eq]
  rfl
@[go_sem] theorem nextC_normal {a : Code} : nextC E C Y w a (some (.normal, st)) = loopC E C Y w a st := rfl
@[go_sem] theorem nextC_exit {a : Code} {id : Nat} : nextC E C Y w a (some (.exit id, st)) = some (.exit id, st) := rfl
@[go_sem] theorem nextC_ret {a : Code} : nextC E C Y w a (some (.ret, st)) = some (.ret, st) := rfl
@[go_sem] theorem nextC_pan {a : Code} {v : AV} : nextC E C Y w a (some (.pan v, st)) = some (.pan v, st) := rfl

/-- The loops of a piece of code, the outer ones ahead of the inner ones. -/
def loopsOf : Code → List Code
  | .seq a b => loopsOf a ++ loopsOf b
  | .cond _ a b => loopsOf a ++ loopsOf b
  | .block _ a => loopsOf a
  | .loop a => a :: loopsOf a
  | .rangeFunc _ _ a b => loopsOf a ++ loopsOf b
  | _ => []
@[go_sem] theorem cut_eq (slots : List Nat) (m : Nat) : ghost (.cut slots m) st =
    if (slots.map fun t => (t, st.tm.get t)).all (fun p => AV.under (st.b + m) p.2) && ((st.H.take (st.b + m)).drop st.b).all (Ent.under (st.b + m)) then
      some { st with tm := slots.map fun t => (t, st.tm.get t), H := st.H.take (st.b + m) } else none := rfl
attribute [go_sem] AV.under AV.underL
@[go_sem] theorem flagAt_nil (k : Nat) : flagAt [] id k = .non := rfl
@[go_sem] theorem flagAt_cons (r j k : Nat) (f : Fl) : flagAt ((r, j, f) :: fl) id k = if r = id ∧ j = k then f else flagAt fl id k := by
  simp only [flagAt]
  by_cases h : r = id
  · subst h
    by_cases h' : j = k
    · subst h'; simp
    · simp [beq_ne h', h']
  · simp [beq_ne h, h]
@[go_sem] theorem natNeg (n : Nat) : ((n : Int) < 0) = False := eq_false (by omega)
/-- The state that a loop leaves, by a function. -/
theorem skol {A : Prop} {P : St → Prop} {Q : St → St → Prop} (h : A → ∀ st, P st → ∃ st', Q st st') : ∃ R : St → St, A → ∀ st, P st → Q st (R st) := by
  by_cases ha : A
  · refine ⟨fun st => open Classical in if hp : P st then (h ha st hp).choose else st, fun _ st hp => ?_⟩
    simp only [dif_pos hp]
    exact (h ha st hp).choose_spec
  · exact ⟨fun st => st, fun h' => absurd h' ha⟩
end
end Go.Abs
