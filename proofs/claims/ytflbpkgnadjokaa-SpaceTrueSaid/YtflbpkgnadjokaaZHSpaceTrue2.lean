/- Texts of this work, joined: VL, VM, VN, VO, Walk, Base, TabV, VP, VQ, Cidr1, VDat, Brg, Within, CidrR, Cidr2a, Mix, Cidr2, Cidr4, Miy, Cidr3, BrgC, Cells, SlP, SlP2. -/
import Derived.Test.YtflbpkgnadjokaaZHSpaceTrue1
import Derived.Deep.LoopGhost
import Derived.Tactics2
import Derived.WalkLawsBesides
import Derived.WalkSpells
import Derived.KernelRfl
import Derived.Deep.QuietTactic
import Derived.BigQuiet
import Derived.Outline
import Derived.Lib.Hide
import Derived.Deep.DeepFit
import Derived.Test.YtflbpkgnadjokaaProg
import Derived.Laws.BitsAllLaws
import Derived.Laws.BitsLemmas
import Derived.Deep.RegionHeld3
import Derived.IntWalk
import Derived.Shelf.Slices.SearchI
set_option linter.unusedSimpArgs false
set_option linter.unusedVariables false
namespace Go.Proofs.Ytflbpkgnadjokaa
open Go Go.RowKit
/-- What an operation comes to: nothing known; a result, chunks that it turns, chunks that it looks at, and what must hold; a call. -/
inductive SR where
  | no
  | res (p : PV) (eff : List (Nat × Chunk)) (touch : List Nat) (side : Prop)
  | call (g : Nat) (ps : List PV)
def pickS (c a b : PV) : SR :=
  match c with
  | .d (.v (.bool t)) =>
    match a, b with
    | .d (.v (.bool p)), .d (.v (.bool q)) => .res (.d (.v (.bool (bif t then p else q)))) [] [] True
    | _, _ => .res (if t then a else b) [] [] True
  | _ => .no
def unS (op : UnOp) (x : PV) : SR :=
  match op, x with
  | .not, .d (.v (.bool b)) => .res (.d (.v (.bool (!b)))) [] [] True
  | .neg, .d (.v (.int k n)) => .res (.d (.v (.int k (k.wrap (0 - n))))) [] [] True
  | _, _ => .no
def nilS (x : PV) : SR :=
  match x with
  | .ptr k off => .res (.ptr k off) [] [] True
  | .rp k g sz i j => .res (.rp k g sz i j) [] [] True
  | .d (.ept cs) => .res (.d (.ept cs)) [] [] True
  | _ => .no
def binS (ti : Option TI) (q : Option Nat) (op : BinOp) (x y : PV) : SR :=
  match x, y with
  | .d (.v (.int k m)), .d (.v (.int k' n)) =>
    if k = k' then
      match op with
      | .quo => .res (.d (.v (.int k (k.wrap (m.tdiv n))))) [] [] (n ≠ 0)
      | .rem => .res (.d (.v (.int k (m.tmod n)))) [] [] (n ≠ 0)
      | _ => match intS op k m n with
        | some r => .res (.d (.v r)) [] [] True
        | none => .no
    else .no
  | .d (.v (.bool m)), .d (.v (.bool n)) =>
    match ti, op with
    | some ti, .eql => .res (.d (.v (.bool (m == n)))) [] [] (ti.kind = 1)
    | some ti, .neq => .res (.d (.v (.bool (m != n)))) [] [] (ti.kind = 1)
    | _, _ => .no
  | .d (.v (.pointer none)), .d (.v (.pointer none)) =>
    match ti, op with
    | some ti, .eql => .res (.d (.v (.bool true))) [] [] (ti.kind = 3)
    | some ti, .neq => .res (.d (.v (.bool false))) [] [] (ti.kind = 3)
    | _, _ => .no
  | .ptr _ _, .d (.v (.pointer none)) =>
    match ti, op with
    | some ti, .eql => .res (.d (.v (.bool false))) [] [] (ti.kind = 3)
    | some ti, .neq => .res (.d (.v (.bool true))) [] [] (ti.kind = 3)
    | _, _ => .no
  | .rp _ _ _ _ _, .d (.v (.pointer none)) =>
    match ti, op with
    | some ti, .eql => .res (.d (.v (.bool false))) [] [] (ti.kind = 3)
    | some ti, .neq => .res (.d (.v (.bool true))) [] [] (ti.kind = 3)
    | _, _ => .no
  | .d (.ept _), .d (.v (.pointer none)) =>
    match ti, op with
    | some ti, .eql => .res (.d (.v (.bool false))) [] [] (ti.kind = 3)
    | some ti, .neq => .res (.d (.v (.bool true))) [] [] (ti.kind = 3)
    | _, _ => .no
  | .d (.agg ds), .d (.agg es) =>
    match q, intsD ds, intsD es with
    | some n, some xs, some ys =>
      match op with
      | .eql => .res (.d (.v (.bool (xs == ys)))) [] [] (xs.length = n ∧ ys.length = n)
      | .neq => .res (.d (.v (.bool (xs != ys)))) [] [] (xs.length = n ∧ ys.length = n)
      | _ => .no
    | _, _, _ => .no
  | _, _ => .no
def fieldS (ti : Option TI) (f : Nat) (x : PV) : SR :=
  match ti with
  | some ti =>
    match ti.fields[f]? with
    | some (off, sz) =>
      match x with
      | .d (.ept ds) => .res (.d (.ept (ds.drop off))) [] [] (sz ≠ 0)
      | .ptr k o' => .res (.ptr k (o' + off)) [] [] (sz ≠ 0)
      | .rp k g sz' i j => .res (.rp k g sz' i (j + off)) [] [] (sz ≠ 0)
      | _ => .no
    | none => .no
  | none => .no
def loadS (ti : Option TI) (h : Nat → Chunk) (x : PV) : SR :=
  match ti with
  | some ti =>
    match x with
    | .d (.ept ds) =>
      if ti.agg then .res (.d (.agg (ds.take ti.size))) [] [] (ti.size ≤ ds.length)
      else match ds with
        | d :: _ => .res (.d d) [] [] (ti.size = 1)
        | [] => .no
    | .ptr k off =>
      match h k with
      | .box _ cells =>
        if ti.agg then .res (aggP ((cells.drop off).take ti.size)) [] [k] (off + ti.size ≤ cells.length)
        else match cells.drop off with
          | p :: _ => .res p [] [k] (ti.size = 1)
          | [] => .no
      | _ => .no
    | .rp k g sz i j =>
      match h k with
      | .row _ sz' g' rows =>
        match rows[i]? with
        | some row =>
          if ti.agg then .res (aggP ((row.drop j).take ti.size)) [] [k] (g = g' ∧ sz = sz' ∧ j + ti.size ≤ sz)
          else match row.drop j with
            | p :: _ => .res p [] [k] (g = g' ∧ sz = sz' ∧ ti.size = 1 ∧ j + 1 ≤ sz)
            | [] => .no
        | none => .no
      | _ => .no
    | _ => .no
  | none => .no
def indexS (T : Nat → Option TI) (ti : Option TI) (h : Nat → Chunk) (x y : PV) : SR :=
  match ti with
  | some ti =>
    match ti.elem with
    | some e =>
      match T e with
      | some te =>
        match y with
        | .d (.v (.int _ n)) =>
          match x with
          | .d (.sl sz rows) => match rows[n.toNat]? with | some row => .res (.d (.ept row)) [] [] (te.size = sz ∧ 0 ≤ n) | none => .no
          | .own k g =>
            match h k with
            | .row e' sz g' rows => .res (.rp k g sz n.toNat 0) [] [k] (e' = e ∧ g' = g ∧ te.size = sz ∧ 0 ≤ n ∧ n.toNat < rows.length)
            | _ => .no
          | _ => .no
        | _ => .no
      | none => .no
    | none => .no
  | none => .no
def extrS (x : PV) (i : Nat) : SR :=
  match x with
  | .d (.tup ds) => match ds[i]? with | some d => .res (.d d) [] [] True | none => .no
  | .tup ds => match ds[i]? with | some d => .res d [] [] True | none => .no
  | _ => .no
def partsS (e : Env) : List (Nat × Operand) → Option (List (Nat × List PV))
  | [] => some []
  | (i, x) :: l =>
    if okP (evL e x) then
      match partsS e l with
      | some pd => some ((i, cellsP (evL e x)) :: pd)
      | none => none
    else none
def buildS (ti : Option TI) (e : Env) (parts : List (Nat × Operand)) : SR :=
  match ti with
  | some ti =>
    match ti.fields with
    | [] => .no
    | _ :: _ =>
      match partsS e parts with
      | some pd =>
        match fillD ti.fields (ti.zero.map fun x => .d (.v x)) pd with
        | some out => .res (aggP out) [] [] True
        | none => .no
      | none => .no
  | none => .no
def rowsS (e : Env) : Nat → List (Nat × Operand) → Option (List (List PV))
  | _, [] => some []
  | n, (i, x) :: l =>
    if okP (evL e x) && (i == n) then
      match rowsS e (n + 1) l with
      | some rows => some (cellsP (evL e x) :: rows)
      | none => none
    else none
def dsR : List (List PV) → Option (List (List D))
  | [] => some []
  | r :: l => match dsOf r, dsR l with | some d, some ds => some (d :: ds) | _, _ => none
def allLen (sz : Nat) : List (List PV) → Prop
  | [] => True
  | r :: l => r.length = sz ∧ allLen sz l
def bslS (T : Nat → Option TI) (ti : Option TI) (nk : Nat) (e : Env) (n : Nat) (parts : List (Nat × Operand)) : SR :=
  match ti with
  | some ti =>
    match ti.elem with
    | some el =>
      match T el with
      | some te =>
        match n, parts with
        | 0, [] => .res (.own nk 0) [(nk, .row el te.size 0 [])] [nk] True
        | n + 1, parts =>
          match rowsS e 0 parts with
          | some rows =>
            match dsR rows with
            | some ds => .res (.d (.sl te.size ds)) [] [] (0 < te.size ∧ (n + 1) * te.size ≤ 16777216 ∧ rows.length = n + 1 ∧ allLen te.size rows)
            | none => .res (.own nk 0) [(nk, .row el te.size 0 rows)] [nk] (0 < te.size ∧ (n + 1) * te.size ≤ 16777216 ∧ rows.length = n + 1 ∧ allLen te.size rows)
          | none => .no
        | _, _ => .no
      | none => .no
    | none => .no
  | none => .no
def convS (ts td : Option TI) (x : PV) : SR :=
  match ts, td with
  | some _, some td =>
    match td.int, x with
    | some k, .d (.v (.int _ n)) => .res (.d (.v (.int k (k.wrap n)))) [] [] True
    | _, _ => .no
  | _, _ => .no
def lenS (ti : Option TI) (h : Nat → Chunk) (x : PV) : SR :=
  match ti with
  | some ti =>
    match ti.elem with
    | some _ =>
      match x with
      | .d (.sl _ rows) => .res (.d (.v (.int .i64 rows.length))) [] [] True
      | .d (.v (.slice none 0 0)) => .res (.d (.v (.int .i64 (0 : Nat)))) [] [] True
      | .own k g => match h k with | .row _ _ g' rows => .res (.d (.v (.int .i64 rows.length))) [] [k] (g = g') | _ => .no
      | _ => .no
    | none => .no
  | none => .no
/-- What is appended. -/
def srcS (h : Nat → Chunk) (sz : Nat) (y : PV) : Option (List (List PV) × List Nat) :=
  match y with
  | .d (.sl sz' news) => if sz' = sz then some (dRows news, []) else none
  | .d (.v (.slice none 0 0)) => some ([], [])
  | .own k g => match h k with | .row _ sz' g' rows => if sz' = sz ∧ g' = g then some (rows, [k]) else none | _ => none
  | _ => none
def appS (T : Nat → Option TI) (ti : Option TI) (nk : Nat) (h : Nat → Chunk) (x y : PV) : SR :=
  match ti with
  | some ti =>
    match ti.elem with
    | some el =>
      match T el with
      | some te =>
        if te.size = 0 ∨ te.bytes = 0 then .no else
        match srcS h te.size y with
        | some (news, ty) =>
          match x with
          | .own k g =>
            match h k with
            | .row e' sz g' rows => .res (.own k (g + 1)) [(k, .row e' sz (g + 1) (rows ++ news))] (k :: ty) (e' = el ∧ g' = g ∧ te.size = sz ∧ (rows.length + news.length) * te.bytes ≤ 140737488355328)
            | _ => .no
          | .d (.v (.slice none 0 0)) => .res (.own nk 0) [(nk, .row el te.size 0 news)] (nk :: ty) (news.length * te.bytes ≤ 140737488355328)
          | _ => .no
        | none => .no
      | none => .no
    | none => .no
  | none => .no
def storeS (ti : Option TI) (h : Nat → Chunk) (dst : Option Nat) (x y : PV) : SR :=
  match ti, dst with
  | some ti, none =>
    match x with
    | .ptr k off =>
      match h k with
      | .box T cells => if okP y then .res .any [(k, .box T (setAt cells off (cellsP y)))] [k] ((cellsP y).length = ti.size ∧ off + ti.size ≤ cells.length) else .no
      | _ => .no
    | .rp k g sz i j =>
      match h k with
      | .row E sz' g' rows =>
        match rows[i]? with
        | some row => if okP y then .res .any [(k, .row E sz' g' (rows.set i (setAt row j (cellsP y))))] [k] (g = g' ∧ sz = sz' ∧ (cellsP y).length = ti.size ∧ j + ti.size ≤ sz) else .no
        | none => .no
      | _ => .no
    | _ => .no
  | _, _ => .no
def callS (f : PV) (args : List PV) : SR :=
  match f with
  | .clo g caps => .call g (args ++ caps)
  | .d (.clo g cd) => .call g (args ++ cd.map .d)
  | _ => .no
def opS (T : Nat → Option TI) (Q : Nat → Option Nat) (e : Env) (hl : List Chunk) (o : Oper) : SR :=
  match o.op with
  | .move x => .res (evL e x) [] [] True
  | .assign x => .res (evL e x) [] [] True
  | .pick c a b => pickS (evL e c) (evL e a) (evL e b)
  | .unOp op _ x => unS op (evL e x)
  | .nilCheck x => nilS (evL e x)
  | .binOp op t x y _ => binS (T t) (Q t) op (evL e x) (evL e y)
  | .fieldAddr t x f => fieldS (T t) f (evL e x)
  | .load t x => loadS (T t) (hatL hl) (evL e x)
  | .indexAddr t x y => indexS T (T t) (hatL hl) (evL e x) (evL e y)
  | .extract x i => extrS (evL e x) i
  | .alloc t => match T t with | some ti => .res (.ptr hl.length 0) [(hl.length, .box t (ti.zero.map fun x => .d (.v x)))] [hl.length] True | none => .no
  | .box t x => if okP (evL e x) then .res (.ptr hl.length 0) [(hl.length, .box t (cellsP (evL e x)))] [hl.length] True else .no
  | .store t x y => storeS (T t) (hatL hl) o.dst (evL e x) (evL e y)
  | .build t ⟨parts⟩ => buildS (T t) e parts
  | .buildSlice t n ⟨parts⟩ => bslS T (T t) hl.length e n parts
  | .makeFunc (.func g) ⟨[]⟩ ⟨caps⟩ => .res (.clo g (caps.map (evL e))) [] [] True
  | .convert src dst x => convS (T src) (T dst) (evL e x)
  | .call ⟨.builtin .len, ⟨[x]⟩, ⟨[t]⟩⟩ => lenS (T t) (hatL hl) (evL e x)
  | .call ⟨.builtin .append, ⟨[x, y]⟩, ⟨[t, t']⟩⟩ => if t = t' then appS T (T t) hl.length (hatL hl) (evL e x) (evL e y) else .no
  | .call ⟨.builtin .min, ⟨[x, y]⟩, _⟩ => match evL e x, evL e y with | .d (.v (.int k m)), .d (.v (.int k' n)) => if k = k' then .res (.d (.v (.int k (if n < m then n else m)))) [] [] True else .no | _, _ => .no
  | .call ⟨.builtin .max, ⟨[x, y]⟩, _⟩ => match evL e x, evL e y with | .d (.v (.int k m)), .d (.v (.int k' n)) => if k = k' then .res (.d (.v (.int k (if m < n then n else m)))) [] [] True else .no | _, _ => .no
  | .call ⟨.value f, ⟨args⟩, _⟩ => callS (evL e f) (args.map (evL e))
  | _ => .no
end Go.Proofs.Ytflbpkgnadjokaa
namespace Go.Proofs.Ytflbpkgnadjokaa
open Go Go.RowKit
theorem hatL_end : ∀ (l : List Chunk), hatL l l.length = .none
  | [] => rfl
  | _ :: l => hatL_end l
/-- The tables are the program's. -/
structure TabOK (P : Program) (T : Nat → Option TI) (Q : Nat → Option Nat) : Prop where
  t : ∀ t ti, T t = some ti → tcheck P t = some ti
  q : ∀ t n, Q t = some n → EqOK P t n
theorem run_equal_ptr {P : Program} {t e : Nat} (h : P.underlying t = some (.pointer e)) (a : Addr) (w : World) : (Op.equal t (.pointer (some a)) (.pointer none)).run P w = .ok false w := by
  unfold Op.equal
  show (Op.equalIn (9999 + 1) t _ _).run P w = _
  rw [Op.equalIn, Sem.run_bind, run_underlying h]
  rfl
theorem run_equal_nil {P : Program} {t e : Nat} (h : P.underlying t = some (.pointer e)) (w : World) : (Op.equal t (.pointer none) (.pointer none)).run P w = .ok true w := by
  unfold Op.equal
  show (Op.equalIn (9999 + 1) t _ _).run P w = _
  rw [Op.equalIn, Sem.run_bind, run_underlying h]
  rfl
theorem op_nilNil {X : Cfg} {ops : Array Oper} {s : FS} {o : Oper} (hd : ∀ d, o.dst = some d → d < X.n) {ti : TI} {op : BinOp} {t t' : Nat} {x y : Operand} {r : Bool} (ho : o.op = .binOp op t x y t') (ht : tcheck X.P t = some ti) (hb : ti.kind = 3) (hx : ev s x = .d (.v (.pointer none))) (hy : ev s y = .d (.v (.pointer none)))
    (hr : (op = .eql ∧ r = true) ∨ (op = .neq ∧ r = false)) : OpOK X ops s o { pv := .d (.v (.bool r)) } :=
  opok_read hd fun s' he _ a w c hc => by
    have h1 := ev_v' hc ((he x (by simp [ho, Op.operands])).trans hx)
    have h2 := ev_v' hc ((he y (by simp [ho, Op.operands])).trans hy)
    obtain ⟨i, d, z, tk⟩ := tck ht
    obtain ⟨el, rfl⟩ : ∃ el, d = .pointer el := by
      have := tk.kind
      rw [hb] at this
      cases d <;> simp [kindD] at this
      exact ⟨_, rfl⟩
    refine ⟨.bool r, ?_, .d _ _ (.v _)⟩
    rcases hr with ⟨rfl, rfl⟩ | ⟨rfl, rfl⟩ <;> simp [execOp, ho, h1, h2, eqGuard, binOp, run_equal_nil tk.und]
theorem op_ptrNil {X : Cfg} {ops : Array Oper} {s : FS} {o : Oper} (hd : ∀ d, o.dst = some d → d < X.n) {ti : TI} {op : BinOp} {t t' : Nat} {x y : Operand} {r : Bool} (ho : o.op = .binOp op t x y t') (ht : tcheck X.P t = some ti) (hb : ti.kind = 3)
    (hx : (∃ k off, ev s x = .ptr k off) ∨ (∃ k g sz i j, ev s x = .rp k g sz i j) ∨ ∃ ds, ev s x = .d (.ept ds)) (hy : ev s y = .d (.v (.pointer none)))
    (hr : (op = .eql ∧ r = false) ∨ (op = .neq ∧ r = true)) : OpOK X ops s o { pv := .d (.v (.bool r)) } :=
  opok_read hd fun s' he _ a w c hc => by
    have h1 : ∃ ad, a.eval x = .pointer (some ad) := by
      have := ev_ok hc x
      rw [he x (by simp [ho, Op.operands])] at this
      generalize a.eval x = u at this
      rcases hx with ⟨k, off, hx⟩ | ⟨k, g, sz, i, j, hx⟩ | ⟨ds, hx⟩ <;> rw [hx] at this
      · cases this; exact ⟨_, rfl⟩
      · cases this; exact ⟨_, rfl⟩
      · have := repD_inv this
        cases this; exact ⟨_, rfl⟩
    obtain ⟨ad, h1⟩ := h1
    have h2 := ev_v' hc ((he y (by simp [ho, Op.operands])).trans hy)
    obtain ⟨i, d, z, tk⟩ := tck ht
    obtain ⟨el, rfl⟩ : ∃ el, d = .pointer el := by
      have := tk.kind
      rw [hb] at this
      cases d <;> simp [kindD] at this
      exact ⟨_, rfl⟩
    refine ⟨.bool r, ?_, .d _ _ (.v _)⟩
    rcases hr with ⟨rfl, rfl⟩ | ⟨rfl, rfl⟩ <;> simp [execOp, ho, h1, h2, eqGuard, binOp, run_equal_ptr tk.und]
theorem op_nilCheckRp {X : Cfg} {ops : Array Oper} {s : FS} {o : Oper} (hd : ∀ d, o.dst = some d → d < X.n) {x : Operand} {k g sz i j : Nat} (ho : o.op = .nilCheck x) (hx : ev s x = .rp k g sz i j) : OpOK X ops s o { pv := .rp k g sz i j } :=
  opok_read hd fun s' he _ a w c hc => by
    have := ev_ok hc x
    rw [he x (by simp [ho, Op.operands]), hx] at this
    generalize hu : a.eval x = u at this
    cases this with
    | rp _ _ _ _ _ b n cap h => exact ⟨_, by simp [execOp, ho, hu], .rp k g sz i j b n cap h⟩
section
variable {X : Cfg} {ops : Array Oper} {e : Env} {hl : List Chunk} {o : Oper} {T : Nat → Option TI} {Q : Nat → Option Nat} (hTQ : TabOK X.P T Q) (hd : ∀ d, o.dst = some d → d < X.n) {p : PV} {eff : List (Nat × Chunk)} {touch : List Nat} {side : Prop}
include hd
theorem pickS_ok {x y z : Operand} (ho : o.op = .pick x y z) (h : pickS (evL e x) (evL e y) (evL e z) = .res p eff touch side) (_hs : side) : OpOK X ops (mkF e hl) o { pv := p, eff := eff, touch := touch } := by
  unfold pickS at h
  split at h
  · rename_i t hx
    have key := op_pick (X := X) (ops := ops) (s := mkF e hl) hd ho ((ev_mk e hl x).trans hx)
    rw [ev_mk, ev_mk] at key
    split at h
    · rename_i a b ha hb
      cases h
      rw [ha, hb] at key
      cases t <;> exact key
    · cases h
      exact key
  · cases h
theorem unS_ok {op : UnOp} {t : Nat} {x : Operand} (ho : o.op = .unOp op t x) (h : unS op (evL e x) = .res p eff touch side) (_hs : side) : OpOK X ops (mkF e hl) o { pv := p, eff := eff, touch := touch } := by
  unfold unS at h
  split at h
  · rename_i b hx
    cases h
    exact op_not hd ho ((ev_mk e hl x).trans hx)
  · rename_i k n hx
    cases h
    exact op_neg hd ho ((ev_mk e hl x).trans hx)
  · cases h
theorem nilS_ok {x : Operand} (ho : o.op = .nilCheck x) (h : nilS (evL e x) = .res p eff touch side) (_hs : side) : OpOK X ops (mkF e hl) o { pv := p, eff := eff, touch := touch } := by
  unfold nilS at h
  split at h
  · rename_i k off hx
    cases h
    have := op_nilCheck (X := X) (ops := ops) (s := mkF e hl) hd ho (.inl ⟨k, off, (ev_mk e hl x).trans hx⟩)
    rwa [ev_mk, hx] at this
  · rename_i k g sz i j hx
    cases h
    exact op_nilCheckRp hd ho ((ev_mk e hl x).trans hx)
  · rename_i cs hx
    cases h
    have := op_nilCheck (X := X) (ops := ops) (s := mkF e hl) hd ho (.inr ⟨cs, (ev_mk e hl x).trans hx⟩)
    rwa [ev_mk, hx] at this
  · cases h
include hTQ in
theorem binS_ok {op : BinOp} {t t' : Nat} {x y : Operand} (ho : o.op = .binOp op t x y t') (h : binS (T t) (Q t) op (evL e x) (evL e y) = .res p eff touch side) (hs : side) : OpOK X ops (mkF e hl) o { pv := p, eff := eff, touch := touch } := by
  unfold binS at h
  split at h
  · rename_i k m k' n hx hy
    split at h
    · rename_i hk
      subst hk
      split at h
      · cases h
        exact op_divrem hd ho ((ev_mk e hl x).trans hx) ((ev_mk e hl y).trans hy) hs (.inl ⟨rfl, rfl⟩)
      · cases h
        exact op_divrem hd ho ((ev_mk e hl x).trans hx) ((ev_mk e hl y).trans hy) hs (.inr ⟨rfl, rfl⟩)
      · split at h
        · rename_i r hr
          cases h
          exact op_int hd ho ((ev_mk e hl x).trans hx) ((ev_mk e hl y).trans hy) hr
        · cases h
    · cases h
  · rename_i m n hx hy
    split at h
    · rename_i ti ht
      cases h
      exact op_boolEq hd ho (hTQ.t t _ ht) hs ((ev_mk e hl x).trans hx) ((ev_mk e hl y).trans hy) (.inl ⟨rfl, rfl⟩)
    · rename_i ti ht
      cases h
      exact op_boolEq hd ho (hTQ.t t _ ht) hs ((ev_mk e hl x).trans hx) ((ev_mk e hl y).trans hy) (.inr ⟨rfl, rfl⟩)
    · cases h
  · rename_i hx hy
    split at h
    · rename_i ti ht
      cases h
      exact op_nilNil hd ho (hTQ.t t _ ht) hs ((ev_mk e hl x).trans hx) ((ev_mk e hl y).trans hy) (.inl ⟨rfl, rfl⟩)
    · rename_i ti ht
      cases h
      exact op_nilNil hd ho (hTQ.t t _ ht) hs ((ev_mk e hl x).trans hx) ((ev_mk e hl y).trans hy) (.inr ⟨rfl, rfl⟩)
    · cases h
  · rename_i k off hx hy
    split at h
    · rename_i ti ht
      cases h
      exact op_ptrNil hd ho (hTQ.t t _ ht) hs (.inl ⟨k, off, (ev_mk e hl x).trans hx⟩) ((ev_mk e hl y).trans hy) (.inl ⟨rfl, rfl⟩)
    · rename_i ti ht
      cases h
      exact op_ptrNil hd ho (hTQ.t t _ ht) hs (.inl ⟨k, off, (ev_mk e hl x).trans hx⟩) ((ev_mk e hl y).trans hy) (.inr ⟨rfl, rfl⟩)
    · cases h
  · rename_i k g sz i j hx hy
    split at h
    · rename_i ti ht
      cases h
      exact op_ptrNil hd ho (hTQ.t t _ ht) hs (.inr (.inl ⟨k, g, sz, i, j, (ev_mk e hl x).trans hx⟩)) ((ev_mk e hl y).trans hy) (.inl ⟨rfl, rfl⟩)
    · rename_i ti ht
      cases h
      exact op_ptrNil hd ho (hTQ.t t _ ht) hs (.inr (.inl ⟨k, g, sz, i, j, (ev_mk e hl x).trans hx⟩)) ((ev_mk e hl y).trans hy) (.inr ⟨rfl, rfl⟩)
    · cases h
  · rename_i ds hx hy
    split at h
    · rename_i ti ht
      cases h
      exact op_ptrNil hd ho (hTQ.t t _ ht) hs (.inr (.inr ⟨ds, (ev_mk e hl x).trans hx⟩)) ((ev_mk e hl y).trans hy) (.inl ⟨rfl, rfl⟩)
    · rename_i ti ht
      cases h
      exact op_ptrNil hd ho (hTQ.t t _ ht) hs (.inr (.inr ⟨ds, (ev_mk e hl x).trans hx⟩)) ((ev_mk e hl y).trans hy) (.inr ⟨rfl, rfl⟩)
    · cases h
  · rename_i ds es hx hy
    split at h
    · rename_i n xs ys hq h1 h2
      split at h
      · cases h
        exact op_eqAgg hd ho (hTQ.q t n hq) (.inl rfl) ((ev_mk e hl x).trans hx) ((ev_mk e hl y).trans hy) h1 h2 hs.1 hs.2
      · cases h
        have := op_eqAgg (X := X) (ops := ops) (s := mkF e hl) hd ho (hTQ.q t n hq) (.inr rfl) ((ev_mk e hl x).trans hx) ((ev_mk e hl y).trans hy) h1 h2 hs.1 hs.2
        simpa using this
      · cases h
    · cases h
  · cases h
include hTQ in
theorem fieldS_ok {t f : Nat} {x : Operand} (ho : o.op = .fieldAddr t x f) (h : fieldS (T t) f (evL e x) = .res p eff touch side) (hs : side) : OpOK X ops (mkF e hl) o { pv := p, eff := eff, touch := touch } := by
  unfold fieldS at h
  split at h
  · rename_i ti ht
    split at h
    · rename_i off sz hf
      split at h
      · rename_i ds hx
        cases h
        exact op_field hd ho (hTQ.t t ti ht) hf hs ((ev_mk e hl x).trans hx)
      · rename_i k o' hx
        cases h
        exact op_fieldPtr hd ho (hTQ.t t ti ht) hf hs ((ev_mk e hl x).trans hx)
      · rename_i k g sz' i j hx
        cases h
        exact op_fieldRp hd ho (hTQ.t t ti ht) hf hs ((ev_mk e hl x).trans hx)
      · cases h
    · cases h
  · cases h
omit hd in
theorem drop_cons {α : Type} {l : List α} {j : Nat} {d : α} {r : List α} (h : l.drop j = d :: r) : l[j]? = some d := by
  have := List.getElem?_drop (xs := l) (i := j) (j := 0)
  rw [h] at this
  simpa using this.symm
omit hd in
theorem getD_row {rows : List (List D)} {i : Nat} (h : i < rows.length) : rows[i]? = some ((rows[i]?).getD []) := by
  rw [List.getElem?_eq_getElem h]; rfl
include hTQ in
theorem loadS_ok {t : Nat} {x : Operand} (ho : o.op = .load t x) (h : loadS (T t) (hatL hl) (evL e x) = .res p eff touch side) (hs : side) : OpOK X ops (mkF e hl) o { pv := p, eff := eff, touch := touch } := by
  unfold loadS at h
  split at h
  · rename_i ti ht
    have ht := hTQ.t t ti ht
    split at h
    · rename_i ds hx
      have hx := (ev_mk e hl x).trans hx
      split at h
      · rename_i hag
        cases h
        exact op_loadE hd ho ht hx hs (.inl ⟨hag, rfl⟩)
      · rename_i hag
        split at h
        · rename_i d r
          cases h
          have hs' : ti.size = 1 := hs
          exact op_loadE hd ho ht hx (by rw [hs']; simp) (.inr ⟨by simpa using hag, hs', rfl⟩)
        · cases h
    · rename_i k off hx
      have hx := (ev_mk e hl x).trans hx
      split at h
      · rename_i TT cells hk
        split at h
        · rename_i hag
          cases h
          exact op_loadP hd ho ht hx (s := mkF e hl) hk hs (.inl ⟨hag, rfl⟩)
        · rename_i hag
          split at h
          · rename_i q r hc
            cases h
            have hs' : ti.size = 1 := hs
            have hc' := drop_cons hc
            exact op_loadP hd ho ht hx (s := mkF e hl) hk (by have := (List.getElem?_eq_some_iff.1 hc').1; omega) (.inr ⟨by simpa using hag, hs', hc'⟩)
          · cases h
      · cases h
    · rename_i k g sz i j hx
      have hx := (ev_mk e hl x).trans hx
      split at h
      · rename_i E sz' g' rows hk
        split at h
        · rename_i row hrow
          split at h
          · rename_i hag
            cases h
            obtain ⟨rfl, rfl, hj⟩ := hs
            exact op_loadRp hd ho ht hx (s := mkF e hl) hk hrow hj (.inl ⟨hag, rfl⟩)
          · rename_i hag
            split at h
            · rename_i d r hc
              cases h
              obtain ⟨rfl, rfl, hs', hj⟩ := hs
              have hc' := drop_cons hc
              exact op_loadRp hd ho ht hx (s := mkF e hl) hk hrow (by omega) (.inr ⟨by simpa using hag, hs', hc'⟩)
            · cases h
        · cases h
      · cases h
    · cases h
  · cases h
include hTQ in
theorem indexS_ok {t : Nat} {x y : Operand} (ho : o.op = .indexAddr t x y) (h : indexS T (T t) (hatL hl) (evL e x) (evL e y) = .res p eff touch side) (hs : side) : OpOK X ops (mkF e hl) o { pv := p, eff := eff, touch := touch } := by
  unfold indexS at h
  split at h
  · rename_i ti ht
    split at h
    · rename_i el he
      split at h
      · rename_i te hte
        split at h
        · rename_i kd n hy
          have hy := (ev_mk e hl y).trans hy
          split at h
          · rename_i sz rows hx
            split at h
            · rename_i row hrow
              cases h
              exact op_index hd ho (hTQ.t t ti ht) he (hTQ.t el te hte) hs.1 ((ev_mk e hl x).trans hx) hy hs.2 hrow
            · cases h
          · rename_i k g hx
            split at h
            · rename_i e' sz g' rows hk
              cases h
              obtain ⟨rfl, rfl, h1, h2, h3⟩ := hs
              exact op_indexOwn hd ho (hTQ.t t ti ht) he (hTQ.t _ te hte) h1 ((ev_mk e hl x).trans hx) (s := mkF e hl) hk hy h2 h3
            · cases h
          · cases h
        · cases h
      · cases h
    · cases h
  · cases h
theorem extrS_ok {x : Operand} {i : Nat} (ho : o.op = .extract x i) (h : extrS (evL e x) i = .res p eff touch side) (_hs : side) : OpOK X ops (mkF e hl) o { pv := p, eff := eff, touch := touch } := by
  unfold extrS at h
  split at h
  · rename_i ds hx
    split at h
    · rename_i d hi
      cases h
      exact op_extract hd ho ((ev_mk e hl x).trans hx) hi
    · cases h
  · rename_i ds hx
    split at h
    · rename_i d hi
      cases h
      exact op_extractP hd ho ((ev_mk e hl x).trans hx) hi
    · cases h
  · cases h
omit hd in
theorem partsS_ok : ∀ {parts : List (Nat × Operand)} {pd : List (Nat × List PV)}, partsS e parts = some pd → pd.length = parts.length ∧ ∀ (j : Nat) (i : Nat) (x : Operand), parts[j]? = some (i, x) → pd[j]? = some (i, cellsP (evL e x)) ∧ okP (evL e x) = true
  | [], pd, h => by cases h; simp
  | (i, x) :: l, pd, h => by
    unfold partsS at h
    split at h
    · rename_i hok
      split at h
      · rename_i pd' h2
        cases h
        obtain ⟨q1, q2⟩ := partsS_ok h2
        refine ⟨by simp [q1], fun j i' y hj => ?_⟩
        cases j with
        | zero =>
          simp at hj
          obtain ⟨rfl, rfl⟩ := hj
          exact ⟨rfl, hok⟩
        | succ j => simpa using q2 j i' y (by simpa using hj)
      · cases h
    · cases h
include hTQ in
theorem buildS_ok {t : Nat} {parts : List (Nat × Operand)} (ho : o.op = .build t ⟨parts⟩) (h : buildS (T t) e parts = .res p eff touch side) (_hs : side) : OpOK X ops (mkF e hl) o { pv := p, eff := eff, touch := touch } := by
  unfold buildS at h
  split at h
  · rename_i ti ht
    split at h
    · cases h
    · rename_i f fs hfl
      split at h
      · rename_i pd hp
        split at h
        · rename_i out hf
          cases h
          obtain ⟨q1, q2⟩ := partsS_ok hp
          refine op_build hd ho (hTQ.t t ti ht) (by rw [hfl]; simp) (pd := pd) (by simpa using q1) (fun j i x hj => ?_) (by rw [← hf, hfl])
          obtain ⟨r1, r2⟩ := q2 j i x (by simpa using hj)
          rw [ev_mk]
          exact ⟨r1, r2⟩
        · cases h
      · cases h
  · cases h
omit hd in
theorem rowsS_ok : ∀ {parts : List (Nat × Operand)} {n : Nat} {rows : List (List PV)}, rowsS e n parts = some rows → parts.length = rows.length ∧ ∀ (j : Nat) (i : Nat) (x : Operand), parts[j]? = some (i, x) →
    i = n + j ∧ rows[j]? = some (cellsP (evL e x)) ∧ okP (evL e x) = true
  | [], n, rows, h => by cases h; simp
  | (i, x) :: l, n, rows, h => by
    unfold rowsS at h
    split at h
    · rename_i hok
      simp only [Bool.and_eq_true, beq_iff_eq] at hok
      split at h
      · rename_i rows' h2
        cases h
        obtain ⟨q1, q2⟩ := rowsS_ok h2
        refine ⟨by simp [q1], fun j i' y hj => ?_⟩
        cases j with
        | zero =>
          simp at hj
          obtain ⟨rfl, rfl⟩ := hj
          exact ⟨by omega, rfl, hok.1⟩
        | succ j =>
          obtain ⟨r0, r1, r3⟩ := q2 j i' y (by simpa using hj)
          exact ⟨by omega, by simpa using r1, r3⟩
      · cases h
    · cases h
omit hd in
theorem dsR_at : ∀ {rows : List (List PV)} {ds : List (List D)}, dsR rows = some ds → rows.length = ds.length ∧ ∀ (j : Nat) (r : List PV), rows[j]? = some r → ∃ d, ds[j]? = some d ∧ dsOf r = some d
  | [], ds, h => by cases h; simp
  | r :: l, ds, h => by
    unfold dsR at h
    split at h
    · rename_i d ds' h1 h2
      cases h
      obtain ⟨q1, q2⟩ := dsR_at h2
      refine ⟨by simp [q1], fun j x hj => ?_⟩
      cases j with
      | zero => simp at hj; subst hj; exact ⟨d, rfl, h1⟩
      | succ j => simpa using q2 j x (by simpa using hj)
    · cases h
omit hd in
theorem allLen_mem {sz : Nat} : ∀ {rows : List (List PV)}, allLen sz rows → ∀ r ∈ rows, r.length = sz
  | r :: rows, h, q, hq => by
    rcases List.mem_cons.1 hq with rfl | hq
    · exact h.1
    · exact allLen_mem h.2 q hq
include hTQ in
theorem bslS_ok (hml : X.m ≤ hl.length) {t n : Nat} {parts : List (Nat × Operand)} (ho : o.op = .buildSlice t n ⟨parts⟩) (h : bslS T (T t) hl.length e n parts = .res p eff touch side) (hs : side) : OpOK X ops (mkF e hl) o { pv := p, eff := eff, touch := touch } := by
  unfold bslS at h
  split at h
  · rename_i ti ht
    split at h
    · rename_i el he
      split at h
      · rename_i te hte
        split at h
        · cases h
          exact op_buildSlice0 hd ho (hTQ.t t ti ht) he (hTQ.t el te hte) (s := mkF e hl) (hatL_end hl) (by omega)
        · rename_i n' parts'
          split at h
          · rename_i rows hr
            obtain ⟨q1, q2⟩ := rowsS_ok hr
            split at h
            · rename_i ds hds
              cases h
              obtain ⟨h1, h2, h3, h4⟩ := hs
              obtain ⟨g1, g2⟩ := dsR_at hds
              refine op_buildSlice hd ho (hTQ.t t ti ht) he (hTQ.t el te hte) rfl h1 (by omega) h2 (by omega) (by simp; omega) (fun j i x hj => ?_)
              obtain ⟨r0, r1, r3⟩ := q2 j i x (by simpa using hj)
              obtain ⟨d, g3, g4⟩ := g2 j _ r1
              have hlen := allLen_mem h4 _ (List.mem_of_getElem? r1)
              refine ⟨by omega, d, g3, by rw [ev_mk]; exact g4, by rw [ev_mk]; exact r3, ?_⟩
              have := congrArg List.length (dsOf_eq g4)
              rw [List.length_map] at this
              omega
            · cases h
              obtain ⟨h1, h2, h3, h4⟩ := hs
              refine op_buildSliceO hd ho (hTQ.t t ti ht) he (hTQ.t el te hte) rfl h1 (by omega) h2 h3 (by simp; omega) (s := mkF e hl) (hatL_end hl) (by omega) (fun j i x hj => ?_)
              obtain ⟨r0, r1, r3⟩ := q2 j i x (by simpa using hj)
              rw [ev_mk]
              exact ⟨by omega, r1, r3, allLen_mem h4 _ (List.mem_of_getElem? r1)⟩
          · cases h
        · cases h
      · cases h
    · cases h
  · cases h
include hTQ in
theorem convS_ok {src dst : Nat} {x : Operand} (ho : o.op = .convert src dst x) (h : convS (T src) (T dst) (evL e x) = .res p eff touch side) (_hs : side) : OpOK X ops (mkF e hl) o { pv := p, eff := eff, touch := touch } := by
  unfold convS at h
  split at h
  · rename_i ts td h1 h2
    split at h
    · rename_i k k' n hi hx
      cases h
      exact op_convert hd ho (hTQ.t _ _ h1) (hTQ.t _ _ h2) hi ((ev_mk e hl x).trans hx)
    · cases h
  · cases h
include hTQ in
theorem lenS_ok {t : Nat} {x : Operand} (ho : o.op = .call ⟨.builtin .len, ⟨[x]⟩, ⟨[t]⟩⟩) (h : lenS (T t) (hatL hl) (evL e x) = .res p eff touch side) (hs : side) : OpOK X ops (mkF e hl) o { pv := p, eff := eff, touch := touch } := by
  unfold lenS at h
  split at h
  · rename_i ti ht
    split at h
    · rename_i el he
      split at h
      · rename_i sz rows hx
        cases h
        exact op_len (ty := 0) hd ho (hTQ.t _ _ ht) he ((ev_mk e hl x).trans hx) (.inl ⟨_, _, rfl, rfl⟩)
      · rename_i hx
        cases h
        exact op_len (ty := 0) hd ho (hTQ.t _ _ ht) he ((ev_mk e hl x).trans hx) (.inr ⟨rfl, rfl⟩)
      · rename_i k g hx
        split at h
        · rename_i E sz g' rows hk
          cases h
          subst hs
          exact op_lenOwn hd ho (hTQ.t _ _ ht) he ((ev_mk e hl x).trans hx) (s := mkF e hl) hk
        · cases h
      · cases h
    · cases h
  · cases h
omit hd in
theorem srcS_ok {sz : Nat} {y : PV} {news : List (List PV)} {ty : List Nat} (h : srcS (hatL hl) sz y = some (news, ty)) : SrcP (mkF e hl) sz y news ty := by
  unfold srcS at h
  split at h
  · split at h
    · rename_i e1
      subst e1
      cases h
      exact .sl _
    · cases h
  · cases h
    exact .nil
  · split at h
    · rename_i E sz' g' rows hk
      split at h
      · rename_i e1
        obtain ⟨rfl, rfl⟩ := e1
        cases h
        exact .own _ _ _ _ hk
      · cases h
    · cases h
  · cases h
include hTQ in
theorem appS_ok (hml : X.m ≤ hl.length) {t : Nat} {x y : Operand} (ho : o.op = .call ⟨.builtin .append, ⟨[x, y]⟩, ⟨[t, t]⟩⟩) (h : appS T (T t) hl.length (hatL hl) (evL e x) (evL e y) = .res p eff touch side) (hs : side) : OpOK X ops (mkF e hl) o { pv := p, eff := eff, touch := touch } := by
  unfold appS at h
  split at h
  · rename_i ti ht
    split at h
    · rename_i el he
      split at h
      · rename_i te hte
        split at h
        · cases h
        · rename_i hz
          have hz1 : 0 < te.size := by omega
          have hz2 : 0 < te.bytes := by omega
          have big : ∀ m : Nat, m * te.bytes ≤ 140737488355328 → m ≤ 9223372036854775807 := fun m hm => by
            have := Nat.le_mul_of_pos_right m hz2
            omega
          split at h
          · rename_i news ty hsrc
            have hsrc := srcS_ok (e := e) (hl := hl) hsrc
            rw [← ev_mk e hl] at hsrc
            split at h
            · rename_i k g hx
              split at h
              · rename_i e' sz g' rows hk
                cases h
                obtain ⟨rfl, rfl, rfl, hb⟩ := hs
                exact op_append hd ho (hTQ.t _ _ ht) he (hTQ.t _ _ hte) rfl hz1 ((ev_mk e hl x).trans hx) (s := mkF e hl) hk hsrc (big _ hb) hb
              · cases h
            · rename_i hx
              cases h
              exact op_appendNil hd ho (hTQ.t _ _ ht) he (hTQ.t _ _ hte) rfl hz1 ((ev_mk e hl x).trans hx) (s := mkF e hl) (hatL_end hl) (by omega) hsrc (big _ hs) hs
            · cases h
          · cases h
      · cases h
    · cases h
  · cases h
include hTQ in
theorem storeS_ok {t : Nat} {x y : Operand} (ho : o.op = .store t x y) (h : storeS (T t) (hatL hl) o.dst (evL e x) (evL e y) = .res p eff touch side) (hs : side) : OpOK X ops (mkF e hl) o { pv := p, eff := eff, touch := touch } := by
  unfold storeS at h
  split at h
  · rename_i ti ht hdst
    split at h
    · rename_i k off hx
      split at h
      · rename_i TT cells hk
        split at h
        · rename_i hok
          cases h
          have := op_store (X := X) (ops := ops) hd ho hdst (hTQ.t _ _ ht) ((ev_mk e hl x).trans hx) (s := mkF e hl) hk (y := y) (by rw [ev_mk]; exact hok) (by rw [ev_mk]; exact hs.1) hs.2
          rwa [ev_mk] at this
        · cases h
      · cases h
    · rename_i k g sz i j hx
      split at h
      · rename_i E sz' g' rows hk
        split at h
        · rename_i row hrow
          split at h
          · rename_i hok
            cases h
            obtain ⟨rfl, rfl, h1, h2⟩ := hs
            have := op_storeRp (X := X) (ops := ops) hd ho hdst (hTQ.t _ _ ht) ((ev_mk e hl x).trans hx) (s := mkF e hl) hk hrow (y := y) (by rw [ev_mk]; exact hok) (by rw [ev_mk]; exact h1) h2
            rwa [ev_mk] at this
          · cases h
        · cases h
      · cases h
    · cases h
  · cases h
end
end Go.Proofs.Ytflbpkgnadjokaa
namespace Go.Proofs.Ytflbpkgnadjokaa
open Go Go.RowKit
section
variable {X : Cfg} {ops : Array Oper} {e : Env} {hl : List Chunk} {o : Oper} {T : Nat → Option TI} {Q : Nat → Option Nat} (hTQ : TabOK X.P T Q) (hd : ∀ d, o.dst = some d → d < X.n)
include hTQ hd
theorem opS_ok (hml : X.m ≤ hl.length) {p : PV} {eff : List (Nat × Chunk)} {touch : List Nat} {side : Prop} (h : opS T Q e hl o = .res p eff touch side) (hs : side) : OpOK X ops (mkF e hl) o { pv := p, eff := eff, touch := touch } := by
  unfold opS at h
  split at h
  · rename_i x ho
    cases h
    have := op_move (X := X) (ops := ops) (s := mkF e hl) hd ho
    rwa [ev_mk] at this
  · rename_i x ho
    cases h
    have := op_assign (X := X) (ops := ops) (s := mkF e hl) hd ho
    rwa [ev_mk] at this
  · rename_i ho; exact pickS_ok hd ho h hs
  · rename_i ho; exact unS_ok hd ho h hs
  · rename_i ho; exact nilS_ok hd ho h hs
  · rename_i ho; exact binS_ok hTQ hd ho h hs
  · rename_i ho; exact fieldS_ok hTQ hd ho h hs
  · rename_i ho; exact loadS_ok hTQ hd ho h hs
  · rename_i ho; exact indexS_ok hTQ hd ho h hs
  · rename_i ho; exact extrS_ok hd ho h hs
  · rename_i t ho
    split at h
    · rename_i ti ht
      cases h
      exact op_alloc hd ho (hTQ.t _ _ ht) (s := mkF e hl) (hatL_end hl) (by omega)
    · cases h
  · rename_i t x ho
    split at h
    · rename_i hok
      cases h
      have := op_box (X := X) (ops := ops) (s := mkF e hl) hd ho (hatL_end hl) (by omega) (by rw [ev_mk]; exact hok)
      rwa [ev_mk] at this
    · cases h
  · rename_i ho; exact storeS_ok hTQ hd ho h hs
  · rename_i ho; exact buildS_ok hTQ hd ho h hs
  · rename_i ho; exact bslS_ok hTQ hd hml ho h hs
  · rename_i g caps ho
    cases h
    have := op_makeFunc (X := X) (ops := ops) (s := mkF e hl) hd ho
    have e1 : (List.map (ev (mkF e hl)) caps) = caps.map (evL e) := List.map_congr_left fun x _ => ev_mk e hl x
    simp only at this
    rwa [e1] at this
  · rename_i ho; exact convS_ok hTQ hd ho h hs
  · rename_i ho; exact lenS_ok hTQ hd ho h hs
  · rename_i x y t t' ho
    split at h
    · rename_i e1
      subst e1
      exact appS_ok hTQ hd hml ho h hs
    · cases h
  · rename_i x y tys ho
    split at h
    · rename_i k m k' n hx hy
      split at h
      · rename_i e1
        subst e1
        cases h
        exact op_min hd ho ((ev_mk e hl x).trans hx) ((ev_mk e hl y).trans hy)
      · cases h
    · cases h
  · rename_i x y tys ho
    split at h
    · rename_i k m k' n hx hy
      split at h
      · rename_i e1
        subst e1
        cases h
        exact op_max hd ho ((ev_mk e hl x).trans hx) ((ev_mk e hl y).trans hy)
      · cases h
    · cases h
  · unfold callS at h
    split at h <;> cases h
  · cases h
omit hTQ hd in
theorem opS_call {g : Nat} {ps : List PV} (h : opS T Q e hl o = .call g ps) : ∃ (fo : Operand) (args : List Operand) (tys : Array Nat) (caps : List PV), o.op = .call ⟨.value fo, ⟨args⟩, tys⟩ ∧ (evL e fo = .clo g caps ∨ ∃ cd : List D, evL e fo = .d (.clo g cd) ∧ caps = cd.map .d) ∧ ps = args.map (evL e) ++ caps := by
  have key : ∀ (fo : Operand) (args : List Operand) (tys : Array Nat), o.op = .call ⟨.value fo, ⟨args⟩, tys⟩ → callS (evL e fo) (args.map (evL e)) = .call g ps → ∃ (fo : Operand) (args : List Operand) (tys : Array Nat) (caps : List PV), o.op = .call ⟨.value fo, ⟨args⟩, tys⟩ ∧ (evL e fo = .clo g caps ∨ ∃ cd : List D, evL e fo = .d (.clo g cd) ∧ caps = cd.map .d) ∧ ps = args.map (evL e) ++ caps := by
    intro fo args tys ho h
    unfold callS at h
    split at h
    · rename_i g' caps hfo
      cases h
      exact ⟨fo, args, tys, caps, ho, .inl hfo, rfl⟩
    · rename_i g' cd hfo
      cases h
      exact ⟨fo, args, tys, _, ho, .inr ⟨cd, hfo, rfl⟩, rfl⟩
    · cases h
  unfold opS at h
  split at h <;> first
    | (rename_i ho; exact key _ _ _ ho h)
    | (exfalso; revert h; unfold pickS; repeat (first | (split) | (intro h; cases h)))
    | (exfalso; revert h; unfold unS; repeat (first | (split) | (intro h; cases h)))
    | (exfalso; revert h; unfold nilS; repeat (first | (split) | (intro h; cases h)))
    | (exfalso; revert h; unfold binS; repeat (first | (split) | (intro h; cases h)))
    | (exfalso; revert h; unfold fieldS; repeat (first | (split) | (intro h; cases h)))
    | (exfalso; revert h; unfold loadS; repeat (first | (split) | (intro h; cases h)))
    | (exfalso; revert h; unfold indexS; repeat (first | (split) | (intro h; cases h)))
    | (exfalso; revert h; unfold extrS; repeat (first | (split) | (intro h; cases h)))
    | (exfalso; revert h; unfold storeS; repeat (first | (split) | (intro h; cases h)))
    | (exfalso; revert h; unfold buildS; repeat (first | (split) | (intro h; cases h)))
    | (exfalso; revert h; unfold bslS; repeat (first | (split) | (intro h; cases h)))
    | (exfalso; revert h; unfold convS; repeat (first | (split) | (intro h; cases h)))
    | (exfalso; revert h; unfold lenS; repeat (first | (split) | (intro h; cases h)))
    | (exfalso; revert h; unfold appS; repeat (first | (split) | (intro h; cases h)))
    | (exfalso; revert h; repeat (first | (split) | (intro h; cases h)))
end
def putE (e : Env) (dst : Option Nat) (p : PV) : Env :=
  match dst with
  | some d => (d, p) :: e
  | none => e
def setC : List Chunk → Nat → Chunk → List Chunk
  | [], 0, c => [c]
  | [], _ + 1, _ => []
  | _ :: l, 0, c => c :: l
  | a :: l, k + 1, c => a :: setC l k c
def effC : List (Nat × Chunk) → List Chunk → List Chunk
  | [], h => h
  | (k, c) :: l, h => setC (effC l h) k c
theorem hatL_setC : ∀ {h : List Chunk} {k : Nat} {c : Chunk}, k ≤ h.length → ∀ k', hatL (setC h k c) k' = if k' = k then c else hatL h k'
  | [], 0, c, _, k' => by cases k' <;> simp [setC, hatL]
  | [], k + 1, c, h, k' => by simp at h
  | a :: l, 0, c, _, k' => by cases k' <;> simp [setC, hatL]
  | a :: l, k + 1, c, h, k' => by
    cases k' with
    | zero => simp [setC, hatL]
    | succ k' =>
      simp only [setC, hatL]
      rw [hatL_setC (by simpa using h)]
      simp
theorem setC_len : ∀ {h : List Chunk} {k : Nat} {c : Chunk}, h.length ≤ (setC h k c).length
  | [], 0, c => by simp [setC]
  | [], k + 1, c => by simp [setC]
  | a :: l, 0, c => by simp [setC]
  | a :: l, k + 1, c => by
    have := setC_len (h := l) (k := k) (c := c)
    simpa [setC] using this
theorem effC_len : ∀ {eff : List (Nat × Chunk)} {h : List Chunk}, h.length ≤ (effC eff h).length
  | [], _ => Nat.le_refl _
  | (_, _) :: _, _ => Nat.le_trans effC_len setC_len
theorem hatL_effC : ∀ {eff : List (Nat × Chunk)} {h : List Chunk}, (∀ kc ∈ eff, kc.1 ≤ h.length) → ∀ k', hatL (effC eff h) k' = effH eff (hatL h) k'
  | [], _, _, _ => rfl
  | (k, c) :: l, h, hk, k' => by
    simp only [effC, effH]
    rw [hatL_setC (Nat.le_trans (hk (k, c) (by simp)) effC_len), hatL_effC fun kc hkc => hk kc (by simp [hkc])]
theorem mkF_app {e : Env} {h : List Chunk} {dst : Option Nat} {p : PV} {eff : List (Nat × Chunk)} {touch : List Nat} (hk : ∀ kc ∈ eff, kc.1 ≤ h.length) : (mkF e h).app dst { pv := p, eff := eff, touch := touch } = mkF (putE e dst p) (effC eff h) := by
  have h1 : hatL (effC eff h) = effH eff (hatL h) := funext (hatL_effC hk)
  cases dst with
  | none => simp only [FS.app, FS.put, mkF, putE, h1]
  | some d =>
    simp only [FS.app, FS.put, mkF, putE, h1]
    congr 1
theorem setC_lt : ∀ {h : List Chunk} {k : Nat} {c : Chunk}, k < h.length → (setC h k c).length = h.length
  | a :: l, 0, c, _ => rfl
  | a :: l, k + 1, c, hk => by simp only [setC, List.length_cons]; rw [setC_lt (by simpa using hk)]
theorem setC_end : ∀ {h : List Chunk} {c : Chunk}, (setC h h.length c).length = h.length + 1
  | [], c => rfl
  | a :: l, c => by simp only [setC, List.length_cons]; rw [setC_end]
/-- What a callee leaves, in the caller's list. -/
def heapM (ρ : Nat → Nat) : Nat → List Chunk → List Chunk → List Chunk
  | _, [], h => h
  | j, c :: l, h => heapM ρ (j + 1) l (setC h (ρ j) (renC ρ c))
theorem effH_put {ρ : Nat → Nat} (inj : ∀ i j, ρ i = ρ j → i = j) {c : Chunk} : ∀ (l : List Chunk) (i j : Nat) (h : Nat → Chunk), j < i → ∀ k, effH (effM ρ i l) (fun k' => if k' = ρ j then c else h k') k = if k = ρ j then c else effH (effM ρ i l) h k
  | [], i, j, h, hj, k => rfl
  | d :: l, i, j, h, hj, k => by
    simp only [effM, effH]
    by_cases e : k = ρ i
    · rw [if_pos e, if_pos e, if_neg (fun e2 => by have := inj _ _ (e.symm.trans e2); omega)]
    · rw [if_neg e, if_neg e]
      exact effH_put inj l (i + 1) j h (by omega) k
theorem heapM_ok {ls : List Nat} {nk : Nat} (hnd : ls.Nodup) (hlt : ∀ k ∈ ls, k < nk) : ∀ (l : List Chunk) (i : Nat) (h : List Chunk), (i ≤ ls.length → h.length = nk) → (ls.length ≤ i → h.length = nk + (i - ls.length)) →
    (∀ k, hatL (heapM (rid ls nk) i l h) k = effH (effM (rid ls nk) i l) (hatL h) k) ∧ h.length ≤ (heapM (rid ls nk) i l h).length
  | [], i, h, _, _ => ⟨fun _ => rfl, Nat.le_refl _⟩
  | c :: l, i, h, h1, h2 => by
    have inj : ∀ i j, rid ls nk i = rid ls nk j → i = j := fun i j e => rid_inj hnd hlt e
    rcases Nat.lt_or_ge i ls.length with hi | hi
    · have hlen := h1 (by omega)
      have hk : rid ls nk i < h.length := by rw [hlen]; exact hlt _ (List.mem_of_getElem? (rid_old hi))
      have hset := setC_lt (c := renC (rid ls nk) c) hk
      obtain ⟨q1, q2⟩ := heapM_ok hnd hlt l (i + 1) (setC h (rid ls nk i) (renC (rid ls nk) c)) (fun _ => hset.trans hlen) (fun hge => by rw [hset, hlen]; omega)
      refine ⟨fun k => ?_, by rw [hset] at q2; exact q2⟩
      simp only [heapM, effM, effH]
      rw [q1 k, show hatL (setC h (rid ls nk i) (renC (rid ls nk) c)) = fun k' => if k' = rid ls nk i then renC (rid ls nk) c else hatL h k' from funext (hatL_setC (Nat.le_of_lt hk))]
      exact effH_put inj l (i + 1) i _ (by omega) k
    · have hlen := h2 hi
      have hk : rid ls nk i = h.length := by
        have := rid_new ls nk (i - ls.length)
        rw [show ls.length + (i - ls.length) = i by omega] at this
        omega
      have hset : (setC h (rid ls nk i) (renC (rid ls nk) c)).length = h.length + 1 := by rw [hk]; exact setC_end
      obtain ⟨q1, q2⟩ := heapM_ok hnd hlt l (i + 1) (setC h (rid ls nk i) (renC (rid ls nk) c)) (fun hge => by omega) (fun _ => by rw [hset, hlen]; omega)
      refine ⟨fun k => ?_, Nat.le_trans (by omega) q2⟩
      simp only [heapM, effM, effH]
      rw [q1 k, show hatL (setC h (rid ls nk i) (renC (rid ls nk) c)) = fun k' => if k' = rid ls nk i then renC (rid ls nk) c else hatL h k' from funext (hatL_setC (by omega))]
      exact effH_put inj l (i + 1) i _ (by omega) k
def yieldD (dj : Option Nat) (e : Env) : Option (Option Bool) :=
  match dj with
  | none => some none
  | some t => match look e t with
    | .d (.v (.bool b)) => some (some b)
    | .d (.v (.tuple _)) => some none
    | _ => none
def guardD (ds : List (Option Nat)) (e : Env) (o : Oper) : Option Bool :=
  match o.guard with
  | none => some true
  | some (j, want) => (yieldD (ds.getD j none) e).map (· == some want)
theorem guardD_ok {ops : Array Oper} {e : Env} {h : List Chunk} {o : Oper} : guardS ops (mkF e h) o = guardD (ops.toList.map (·.dst)) e o := by
  unfold guardS guardD
  cases o.guard with
  | none => rfl
  | some jw =>
    obtain ⟨j, want⟩ := jw
    simp only
    congr 1
    unfold yieldS yieldD
    have : (ops[j]?).bind (·.dst) = (ops.toList.map (·.dst)).getD j none := by
      simp only [List.getD_eq_getElem?_getD, List.getElem?_map, Array.getElem?_toList]
      cases ops[j]? <;> rfl
    rw [this]
    rfl
def dstB (n : Nat) (o : Oper) : Bool := match o.dst with | some d => decide (d < n) | none => true
def vwL (h : Nat → Chunk) (ps : List PV) : Option (List D) := viewL (vw h) ps
def tcL (h : Nat → Chunk) (ps : List PV) : List Nat := tchL (tc h) ps
def mids (ls : List Nat) (nk n : Nat) : List Nat := (List.range n).map (rid ls nk)
/-- One operation's result, with all that follows behind a name. -/
def runO (P : Program) (r : SR) (dst : Option Nat) (e : Env) (h : List Chunk) (sm : List (List Nat × List Nat)) (R : Env → List Chunk → List (List Nat × List Nat) → Prop) : Prop :=
  match r with
  | .no => False
  | .res p eff touch side => side ∧ (eff.all fun kc => decide (kc.1 ≤ h.length)) = true ∧ R (putE e dst p) (effC eff h) ((eff.map (·.1), touch) :: sm)
  | .call g ps => (∃ ds r, vwL (hatL h) ps = some ds ∧ PSpec P g ds r ∧ (tcL (hatL h) ps = [] ∨ r.flat = true) ∧ R (putE e dst (.d r)) h (([], tcL (hatL h) ps) :: sm)) ∨
      ∃ ls args h0 r h1, MSpec P g args h0 r h1 ∧ ps = renL (rid ls h.length) args ∧ ls.length = h0.length ∧ ls.Nodup ∧ (∀ k ∈ ls, k < h.length) ∧ lentOK (hatL h) (rid ls h.length) 0 h0 ∧
        R (putE e dst (ren (rid ls h.length) r)) (heapM (rid ls h.length) 0 h1 h) ((mids ls h.length h1.length, mids ls h.length h1.length) :: sm)
/-- A region, evaluated. -/
def sOps (P : Program) (n : Nat) (T : Nat → Option TI) (Q : Nat → Option Nat) (draw : Bool) (ops : Array Oper) (ds : List (Option Nat)) : List Oper → Env → List Chunk → List (List Nat × List Nat) → (Env → List Chunk → Prop) → Prop
  | [], e, h, sm, K => (draw = true → (indepB ops sm.reverse && edgesB ops) = true) ∧ K e h
  | o :: l, e, h, sm, K =>
    match guardD ds e o with
    | some g =>
      dstB n o = true ∧
      (g = true → runO P (opS T Q e h o) o.dst e h sm (fun e' h' sm' => sOps P n T Q draw ops ds l e' h' sm' K)) ∧
      (g = false → sOps P n T Q draw ops ds l (putE e o.dst (.d (.v undef))) h (([], []) :: sm) K)
    | none => False
theorem sOps_sound {X : Cfg} {T : Nat → Option TI} {Q : Nat → Option Nat} (hTQ : TabOK X.P T Q) {draw : Bool} {ops : Array Oper} {K : Env → List Chunk → Prop} : ∀ (l : List Oper) (i : Nat) (e : Env) (h : List Chunk) (sm : List (List Nat × List Nat)), X.m ≤ h.length → ops.toList.drop i = l → i ≤ ops.size →
    sOps X.P X.n T Q draw ops (ops.toList.map (·.dst)) l e h sm K → ∃ its e' h', TraceOK X ops (mkF e h) i its ∧ runS (mkF e h) its = mkF e' h' ∧ (draw = true → (indepB ops (sm.reverse ++ smOf its) && edgesB ops) = true) ∧ K e' h'
  | [], i, e, h, sm, hml, hl, hi, hs => by
    refine ⟨[], e, h, ?_, rfl, by simpa [smOf] using hs.1, hs.2⟩
    have := congrArg List.length hl
    simp at this
    simp only [TraceOK]
    omega
  | o :: l, i, e, h, sm, hml, hl, hi, hs => by
    have hlt : i < ops.size := by
      have := congrArg List.length hl
      simp at this
      omega
    have hoi : ops[i]? = some o := by
      have := List.getElem?_drop (xs := ops.toList) (i := i) (j := 0)
      rw [hl] at this
      simpa using this.symm
    have hl' : ops.toList.drop (i + 1) = l := by
      rw [← List.drop_drop, hl]; rfl
    unfold sOps at hs
    split at hs
    · rename_i g hg
      obtain ⟨hdst, h1, h2⟩ := hs
      have hd : ∀ d, o.dst = some d → d < X.n := by
        intro d hd
        unfold dstB at hdst
        rw [hd] at hdst
        simpa using hdst
      have hgS : guardS ops (mkF e h) o = some g := guardD_ok.trans hg
      have step : ∀ (res : Res) (e2 : Env) (h2 : List Chunk), ItOK X ops (mkF e h) ⟨o, g, res⟩ → (mkF e h).app o.dst res = mkF e2 h2 → h.length ≤ h2.length → sOps X.P X.n T Q draw ops (ops.toList.map (·.dst)) l e2 h2 ((res.eff.map (·.1), res.touch) :: sm) K →
          ∃ its e' h', TraceOK X ops (mkF e h) i its ∧ runS (mkF e h) its = mkF e' h' ∧ (draw = true → (indepB ops (sm.reverse ++ smOf its) && edgesB ops) = true) ∧ K e' h' := by
        intro res e2 h2 hit happ hlen hs
        obtain ⟨its, e', h', t1, t2, t3, t4⟩ := sOps_sound hTQ l (i + 1) e2 h2 _ (by omega) hl' (by omega) hs
        refine ⟨⟨o, g, res⟩ :: its, e', h', ⟨hoi, hit, by rw [happ]; exact t1⟩, ?_, fun hdr => ?_, t4⟩
        · show runS ((mkF e h).app o.dst res) its = _
          rw [happ]
          exact t2
        · have := t3 hdr
          simpa [smOf] using this
      cases g with
      | true =>
        have h1 := h1 rfl
        unfold runO at h1
        split at h1
        · exact h1.elim
        · rename_i p eff touch side hop
          obtain ⟨hside, heff, hrest⟩ := h1
          have hk : ∀ kc ∈ eff, kc.1 ≤ h.length := fun kc hkc => by
            have := List.all_eq_true.1 heff kc hkc
            simpa using this
          exact step ⟨p, eff, touch⟩ _ _ ⟨hgS, fun _ => opS_ok hTQ hd hml hop hside, fun hf => by cases hf⟩ (mkF_app hk) effC_len hrest
        · rename_i g ps hop
          obtain ⟨fo, args, tys, caps, ho, hf, rfl⟩ := opS_call hop
          have e1 : (List.map (ev (mkF e h)) args) = args.map (evL e) := List.map_congr_left fun x _ => ev_mk e h x
          have hf' : ev (mkF e h) fo = .clo g caps ∨ ∃ cd : List D, ev (mkF e h) fo = .d (.clo g cd) ∧ caps = cd.map .d := by rw [ev_mk]; exact hf
          rcases h1 with ⟨ds, r, hv, hp, hfl, hrest⟩ | ⟨ls, margs, h0, r, hh1, hM, hps, g1, g2, g3, g4, hrest⟩
          · have := op_call (X := X) (ops := ops) (s := mkF e h) hd ho hf' (by simp only; rw [e1]; exact hv) hp (by simp only; rw [e1]; exact hfl)
            simp only at this
            rw [e1] at this
            exact step ⟨.d r, [], _⟩ _ h ⟨hgS, fun _ => this, fun hf => by cases hf⟩ (mkF_app (fun kc h => by simp at h)) (Nat.le_refl _) hrest
          · have := op_mcall (X := X) (ops := ops) (s := mkF e h) (ls := ls) (nk := h.length) hd ho hf' hM (by simp only; rw [e1]; exact hps) g1 g2 g3 g4 (fun i _ => hat_over h (h.length + i) (by omega)) hml
            obtain ⟨q1, q2⟩ := heapM_ok g2 g3 hh1 0 h (fun _ => rfl) (fun h0 => by omega)
            refine step ⟨_, _, _⟩ (putE e o.dst (ren (rid ls h.length) r)) (heapM (rid ls h.length) 0 hh1 h) ⟨hgS, fun _ => this, fun hf => by cases hf⟩ ?_ q2 ?_
            · have h3 : hatL (heapM (rid ls h.length) 0 hh1 h) = effH (effM (rid ls h.length) 0 hh1) (hatL h) := funext q1
              cases hdd : o.dst with
              | none => simp only [FS.app, FS.put, mkF, putE, h3]
              | some d =>
                simp only [FS.app, FS.put, mkF, putE, h3]
                congr 1
            · have h4 : (effM (rid ls h.length) 0 hh1).map (·.1) = mids ls h.length hh1.length := by
                rw [effM_keys]
                exact List.map_congr_left fun j _ => by rw [Nat.zero_add]
              simp only
              rw [h4]
              exact hrest
      | false =>
        exact step undefR _ h ⟨hgS, (fun hf => (by cases hf)), fun _ => ⟨rfl, hd⟩⟩ (mkF_app (fun kc h => by simp at h)) (Nat.le_refl _) (h2 rfl)
    · exact hs.elim
theorem region_sound {X : Cfg} {T : Nat → Option TI} {Q : Nat → Option Nat} (hTQ : TabOK X.P T Q) (hm : X.P.follows .mixedOrders = true) {id : Nat} {draw : Bool} {ops : Array Oper} {K : Env → List Chunk → Prop} {e : Env} {h : List Chunk} {a : Act} {w : World} {R : Exit → Act → World → Prop} (hml : X.m ≤ h.length)
    (hs : sOps X.P X.n T Q draw ops (ops.toList.map (·.dst)) ops.toList e h [] K) (hr : Real X (mkF e h) a w) (hR : ∀ e' h' a' w', K e' h' → Real X (mkF e' h') a' w' → R .normal a' w') : (Code.region id ops draw).wp X.P R a w := by
  obtain ⟨its, e', h', t1, t2, t3, t4⟩ := sOps_sound hTQ ops.toList 0 e h [] hml rfl (Nat.zero_le _) hs
  refine region_real hm id draw t1 (fun hd => ?_) hr (fun a' w' hr' => hR e' h' a' w' t4 (by rw [← t2]; exact hr'))
  have := t3 hd
  simpa using this
end Go.Proofs.Ytflbpkgnadjokaa
namespace Go.Proofs.Ytflbpkgnadjokaa
open Go Go.RowKit
/-- A state says no more than another. -/
def Weak (P : Program) (n m : Nat) (e : Env) (h : List Chunk) (e' : Env) (h' : List Chunk) : Prop := ∀ X : Cfg, X.P = P → X.n = n → X.m = m → ∀ a w, Real X (mkF e h) a w → Real X (mkF e' h') a w
def RK (X : Cfg) (K : Exit → Env → List Chunk → Prop) (x : Exit) (a : Act) (w : World) : Prop := ∃ e h, K x e h ∧ Real X (mkF e h) a w
/-- What a state makes of code. -/
def swp (P : Program) (n m : Nat) (c : Code) (K : Exit → Env → List Chunk → Prop) (e : Env) (h : List Chunk) : Prop := ∀ X : Cfg, X.P = P → X.n = n → X.m = m → ∀ a w, Real X (mkF e h) a w → c.wp P (RK X K) a w
def argP : List PV → Nat → Env
  | [], _ => []
  | p :: l, i => (i, p) :: argP l (i + 1)
theorem look_argP : ∀ (ps : List PV) (i t : Nat), look (argP ps i) t = if i ≤ t then (match ps[t - i]? with | some p => p | none => .any) else .any
  | [], i, t => by simp [argP, look]
  | d :: l, i, t => by
    simp only [argP, look]
    by_cases h : t = i
    · subst h
      simp
    · rw [if_neg h, look_argP l (i + 1) t]
      by_cases h2 : i ≤ t
      · rw [if_pos h2, if_pos (by omega), show t - i = (t - (i + 1)) + 1 by omega, List.getElem?_cons_succ]
      · rw [if_neg h2, if_neg (by omega)]
def retPV (T : Nat → Option TI) (e : Env) (h : List Chunk) : ResultVar → Option PV
  | .tmp t => some (look e t)
  | .cell a t =>
    match look e a, T t with
    | .ptr k off, some ti =>
      match hatL h k with
      | .box _ cells =>
        if off + ti.size ≤ cells.length then
          if ti.agg then some (aggP ((cells.drop off).take ti.size))
          else match cells.drop off with
            | p :: _ => if ti.size = 1 then some p else none
            | [] => none
        else none
      | _ => none
    | _, _ => none
def retPL (T : Nat → Option TI) (e : Env) (h : List Chunk) : List ResultVar → Option (List PV)
  | [] => some []
  | r :: l => match retPV T e h r, retPL T e h l with | some d, some ds => some (d :: ds) | _, _ => none
def retP : List PV → PV
  | [p] => p
  | ps => tupP ps
/-- A datum says no more than another. -/
def DLe (d d' : D) : Prop := ∀ (M : Nat → Prop) (w : World) (v : Value), RepD M w d v → RepD M w d' v
theorem DLe.refl (d : D) : DLe d d := fun _ _ _ h => h
theorem DLe.of_eq {d d' : D} (h : d = d') : DLe d d' := h ▸ DLe.refl d
theorem DLe.nil (sz : Nat) : DLe (.v (.slice none 0 0)) (.sl sz []) := fun _ _ _ h => by cases h; exact .nil _ _ _ (by omega)
def dles : List D → List D → Prop
  | [], [] => True
  | a :: l, b :: m => DLe a b ∧ dles l m
  | _, _ => False
theorem dles_at : ∀ {l m : List D}, dles l m → l.length = m.length ∧ ∀ (j : Nat) (a b : D), l[j]? = some a → m[j]? = some b → DLe a b
  | [], [], _ => ⟨rfl, fun j a b h => by simp at h⟩
  | [], _ :: _, h => h.elim
  | _ :: _, [], h => h.elim
  | a :: l, b :: m, ⟨h1, h2⟩ => by
    obtain ⟨q1, q2⟩ := dles_at h2
    refine ⟨by simp [q1], fun j x y hx hy => ?_⟩
    cases j with
    | zero => simp at hx hy; subst hx; subst hy; exact h1
    | succ j => exact q2 j x y (by simpa using hx) (by simpa using hy)
theorem dles_rep {M : Nat → Prop} {w : World} {l m : List D} {vs : List Value} (h : dles l m) (hr : RepDs M w l vs) : RepDs M w m vs := by
  obtain ⟨q1, q2⟩ := dles_at h
  refine ⟨q1 ▸ hr.1, fun j d x hj hx => ?_⟩
  have hlt : j < l.length := by rw [q1]; exact (List.getElem?_eq_some_iff.1 hj).1
  have hl : l[j]? = some l[j] := List.getElem?_eq_getElem hlt
  exact q2 j _ d hl hj M w x (hr.2 j _ x hl hx)
theorem DLe.agg {l m : List D} (h : dles l m) (h1 : m.all D.one = true) : DLe (.agg l) (.agg m) := fun M w v hr => by
  cases hr with
  | agg _ vs hl _ hrep =>
    have := dles_rep h ⟨hl, hrep⟩
    exact .agg m vs this.1 (by simpa using h1) this.2
theorem DLe.tup {l m : List D} (h : dles l m) : DLe (.tup l) (.tup m) := fun M w v hr => by
  cases hr with
  | tup _ vs hl hrep =>
    have := dles_rep h ⟨hl, hrep⟩
    exact .tup m vs this.1 this.2
theorem PSpec.args {P : Program} {f : Nat} {ds ds' : List D} {r : D} (h : PSpec P f ds' r) (hd : dles ds ds') : PSpec P f ds r := ⟨h.1, fun M w vs hM hds => h.2 M w vs hM (dles_rep hd hds)⟩
theorem PSpec.res {P : Program} {f : Nat} {ds : List D} {r r' : D} (h : PSpec P f ds r) (hr : DLe r r') : PSpec P f ds r' := ⟨h.1, fun M w vs hM hds => (h.2 M w vs hM hds).mono fun e w' ⟨v, he, hv, hx⟩ => ⟨v, he, hr M w' v hv, hx⟩⟩
/-- What a function is left with: data. -/
def RetOK (T : Nat → Option TI) (rs : List ResultVar) (r : D) (x : Exit) (e : Env) (h : List Chunk) : Prop := (x = .normal ∨ x = .ret) ∧ ∃ ps d, retPL T e h rs = some ps ∧ vw (hatL h) (retP ps) = some d ∧ DLe d r
/-- What a function is left with: a value, and chunks. -/
def RetM (P : Program) (m : Nat) (T : Nat → Option TI) (rs : List ResultVar) (r : PV) (h1 : List Chunk) (x : Exit) (e : Env) (h : List Chunk) : Prop := (x = .normal ∨ x = .ret) ∧ ∃ ps, retPL T e h rs = some ps ∧ Weak P 1 m [(0, retP ps)] h [(0, r)] h1
def resSem (tmps : Array Value) : ResultVar → Sem Value
  | .tmp t => pure (tmps.getD t undef)
  | .cell a t => do loadVar t (← asAddr (tmps.getD a undef))
theorem results_run {P : Program} {tmps : Array Value} {w : World} : ∀ (rs : List ResultVar) (vs : List Value), rs.length = vs.length →
    (∀ (j : Nat) (r : ResultVar) (v : Value), rs[j]? = some r → vs[j]? = some v → (resSem tmps r).run P w = .ok v w) → (rs.mapM (resSem tmps)).run P w = .ok vs w
  | [], [], _, _ => by simp
  | [], _ :: _, h, _ => by simp at h
  | _ :: _, [], h, _ => by simp at h
  | r :: rs, v :: vs, h, hr => by
    have h0 := hr 0 r v rfl rfl
    have ih := results_run (P := P) (tmps := tmps) (w := w) rs vs (by simpa using h) fun j r v h1 h2 => hr (j + 1) r v (by simpa using h1) (by simpa using h2)
    rw [List.mapM_cons, Sem.run_bind, h0]
    simp only [Result.andThen_ok, Sem.run_bind, ih]
    rfl
theorem ret_one {X : Cfg} {T : Nat → Option TI} {Q : Nat → Option Nat} (hTQ : TabOK X.P T Q) {e : Env} {h : List Chunk} {a : Act} {w : World} {c : Cx} (hc : RealC X (mkF e h) a w c) (rv : ResultVar) (p : PV) (hrv : retPV T e h rv = some p) :
    ∃ v, (resSem a.tmps rv).run X.P w = .ok v w ∧ RepP c w p v := by
  cases rv with
  | tmp t => cases hrv; exact ⟨_, rfl, hc.env t⟩
  | cell b t =>
    simp only [retPV] at hrv
    split at hrv
    · rename_i k off ti hb' ht
      split at hrv
      · rename_i TT cells hk
        split at hrv
        · rename_i hsz
          have hck := hc.chunk k
          have hk' : (mkF e h).heap k = .box TT cells := hk
          rw [hk'] at hck
          have henv := hc.env b
          have hb2 : (mkF e h).env b = .ptr k off := hb'
          rw [hb2] at henv
          generalize hu : a.tmps.getD b undef = u at henv
          cases henv with
          | ptr _ _ bb hbb =>
            cases hck with
            | box _ _ b'' us hb'' hh hrr h1 =>
              rw [hbb] at hb''
              cases hb''
              have hul : us.length = cells.length := hrr.1.symm
              have hlen : ((us.drop off).take ti.size).length = ti.size := by rw [List.length_take, List.length_drop]; omega
              have hcell : ∀ (j : Nat) (v : Value), ((us.drop off).take ti.size)[j]? = some v → w.cell? ⟨bb, off + j, none⟩ = some v := fun j v hj => by
                simp [World.cell?, hh, (take_drop_at hj).2]
              have hload : ∀ (h0 : ti.agg = false → ∃ v, (us.drop off).take ti.size = [v]), (loadVar t ⟨bb, off, none⟩).run X.P w = .ok (if ti.agg then .agg ((us.drop off).take ti.size).toArray else ((us.drop off).take ti.size).headD undef) w := by
                intro h0
                have := run_loadAt (hTQ.t t ti ht) w bb off ((us.drop off).take ti.size) hlen hcell h0
                simpa [Instr.loadAt, Instr.sureAddr] using this
              cases hag : ti.agg with
              | true =>
                rw [hag, if_pos rfl] at hrv
                cases hrv
                have hl := hload (fun h => by rw [hag] at h; cases h)
                rw [hag, if_pos rfl] at hl
                exact ⟨_, by simp [resSem, hu, asAddr, hl], rep_aggP (hrr.part off ti.size) (fun d hd => h1 d (List.mem_of_mem_drop (List.mem_of_mem_take hd)))⟩
              | false =>
                rw [hag, if_neg (by simp)] at hrv
                split at hrv
                · rename_i q l hdr
                  split at hrv
                  · rename_i h1'
                    cases hrv
                    have hp := drop_cons hdr
                    obtain ⟨v, hv⟩ : ∃ v, us[off]? = some v := ⟨us[off]'(by omega), List.getElem?_eq_getElem _⟩
                    have hone : (us.drop off).take ti.size = [v] := by
                      rw [h1', List.drop_eq_getElem_cons (by omega)]
                      simp only [List.take_succ_cons, List.take_zero]
                      rw [List.getElem?_eq_getElem (by omega)] at hv
                      simpa using hv
                    have hl := hload (fun _ => ⟨v, hone⟩)
                    rw [hag, if_neg (by simp), hone] at hl
                    exact ⟨v, by simp [resSem, hu, asAddr, hl], hrr.2 off p v hp hv⟩
                  · cases hrv
                · cases hrv
        · cases hrv
      · cases hrv
    · cases hrv
theorem ret_all {X : Cfg} {T : Nat → Option TI} {Q : Nat → Option Nat} (hTQ : TabOK X.P T Q) {e : Env} {h : List Chunk} {a : Act} {w : World} {c : Cx} (hc : RealC X (mkF e h) a w c) {fn : Func} {ps : List PV} (hret : retPL T e h fn.results.toList = some ps) :
    ∃ v, (results fn a.tmps).run X.P w = .ok v w ∧ RepP c w (retP ps) v := by
  have hlist : ∀ (rs : List ResultVar) (ps : List PV), retPL T e h rs = some ps → ∃ vs : List Value, rs.length = vs.length ∧ RepPs c w ps vs ∧
      (∀ (j : Nat) (r : ResultVar) (v : Value), rs[j]? = some r → vs[j]? = some v → (resSem a.tmps r).run X.P w = .ok v w) := by
    intro rs
    induction rs with
    | nil =>
      intro ds hds
      simp [retPL] at hds
      subst hds
      exact ⟨[], rfl, ⟨rfl, fun j d x h => by simp at h⟩, fun j r v h => by simp at h⟩
    | cons rv rs ih =>
      intro ds hds
      simp only [retPL] at hds
      split at hds
      · rename_i d ds' h1 h2
        cases hds
        obtain ⟨v, hv1, hv2⟩ := ret_one hTQ hc rv d h1
        obtain ⟨vs, g1, g2, g3⟩ := ih ds' h2
        refine ⟨v :: vs, by simp [g1], ⟨by simp [g2.1], fun j d x hj hx => ?_⟩, fun j r x hj hx => ?_⟩
        · cases j with
          | zero => simp at hj hx; subst hj; subst hx; exact hv2
          | succ j => exact g2.2 j d x (by simpa using hj) (by simpa using hx)
        · cases j with
          | zero => simp at hj hx; subst hj; subst hx; exact hv1
          | succ j => exact g3 j r x (by simpa using hj) (by simpa using hx)
      · cases hds
  obtain ⟨vs, g1, g2, g3⟩ := hlist _ _ hret
  have hrun := results_run (P := X.P) (tmps := a.tmps) (w := w) fn.results.toList vs g1 g3
  have hres : (results fn a.tmps).run X.P w = .ok (if h : vs.length = 1 then vs[0] else .tuple vs.toArray) w := by
    have e1 : results fn a.tmps = (do let vs ← fn.results.mapM (resSem a.tmps); pure (if h : vs.size = 1 then vs[0] else .tuple vs)) := by
      unfold results
      congr 1
    rw [e1, Sem.run_bind, Array.mapM_eq_mapM_toList]
    simp [hrun]
  refine ⟨_, hres, ?_⟩
  by_cases h1 : vs.length = 1
  · rw [dif_pos h1]
    obtain ⟨d, rfl⟩ := List.length_eq_one_iff.1 (g2.1.trans h1)
    exact g2.2 0 d _ rfl (List.getElem?_eq_getElem (by omega))
  · rw [dif_neg h1]
    have : retP ps = tupP ps := by
      unfold retP
      split
      · exact absurd g2.1.symm h1
      · rfl
    rw [this]
    exact rep_tupP g2
theorem args_env {c : Cx} {w : World} {ps : List PV} {vs : List Value} {n : Nat} (hds : RepPs c w ps vs) (t : Nat) : RepP c w (look (argP ps 0) t) ((vs.toArray ++ Array.replicate (n - vs.toArray.size) undef).getD t undef) := by
  rw [look_argP]
  rw [if_pos (Nat.zero_le _), Nat.sub_zero]
  cases hd : ps[t]? with
  | none => exact .any _
  | some d =>
    have hlt : t < vs.length := by rw [← hds.1]; exact (List.getElem?_eq_some_iff.1 hd).1
    have hv : vs[t]? = some vs[t] := List.getElem?_eq_getElem hlt
    have := hds.2 t d _ hd hv
    simp only [Array.getD_eq_getD_getElem?, Array.getElem?_append, List.size_toArray, hlt, if_true, List.getElem?_toArray, hv, Option.getD_some]
    exact this
theorem pspec_intro {P : Program} {f : Nat} {fn : Func} {c : Code} {T : Nat → Option TI} {Q : Nat → Option Nat} (hTQ : TabOK P T Q) (hf : P.funcs[f]? = some fn) (hb : fn.body = some c) (hn : FnOK P f) {ds : List D} {r : D} (hl : ds.length ≤ fn.ntmps)
    (hp : swp P fn.ntmps 0 c (RetOK T fn.results.toList r) (argP (ds.map .d) 0) []) : PSpec P f ds r := by
  refine ⟨hn, fun M w vs hM hds => ?_⟩
  have hvl : vs.length = ds.length := hds.1.symm
  let c0 : Cx := { M := M, bl := fun _ => none, ov := fun _ _ => none }
  let X : Cfg := { P := P, n := fn.ntmps, m := 0, w0 := w, M0 := M, L := fun _ => False, c0 := c0 }
  have hreal : Real X (mkF (argP (ds.map .d) 0) []) { tmps := vs.toArray ++ Array.replicate (fn.ntmps - vs.toArray.size) undef, defers := [] } w := by
    refine ⟨c0, by simp [X]; omega, rfl, ExtL.refl _ _, fun b hb => ⟨hM b hb, id⟩, fun b => ⟨.inl, fun h => ?_⟩, fun k b h => ?_, fun k k' b h _ => ?_, fun t => args_env (repPs_d (c := c0) hds) t, fun k => ?_, fun k hk => absurd hk (Nat.not_lt_zero _)⟩
    · rcases h with h | ⟨k, h⟩
      · exact h
      · simp [mkF, hatL, Cx.block] at h
    · simp [mkF, hatL, Cx.block] at h
    · simp [mkF, hatL, Cx.block] at h
    · simp only [mkF, hatL]
      exact .none rfl fun _ => rfl
  refine calls_of_wp hf hb (wp_mono (hp X rfl rfl rfl _ _ hreal) fun ex a w' hq => ?_)
  obtain ⟨e, h, ⟨hx, ps, d, hret, hv, hle⟩, hr⟩ := hq
  obtain ⟨cx, hc⟩ := hr
  obtain ⟨v, hrun, hrep⟩ := ret_all hTQ hc hret
  have hd := viewF_ok hc (T := tc (hatL h) (retP ps)) 6 hv (fun _ h => h) hrep
  have hd2 : RepD M w' d v := by
    refine hd.keep ⟨Nat.le_refl _, fun _ _ _ => rfl, fun b _ hb => ⟨(hc.mu b).2 (.inl hb), fun k _ e => ?_⟩⟩
    rcases (hc.new k b e).1 with h1 | h1
    · exact h1
    · have := (hc.fresh b hb).1
      omega
  rcases hx with rfl | rfl
  · exact ⟨hc.defers, v, hrun, v, rfl, hle _ _ _ hd2, hc.ext.ext⟩
  · exact ⟨hc.defers, v, hrun, v, rfl, hle _ _ _ hd2, hc.ext.ext⟩
theorem mspec_intro {P : Program} {f : Nat} {fn : Func} {c : Code} {T : Nat → Option TI} {Q : Nat → Option Nat} (hTQ : TabOK P T Q) (hf : P.funcs[f]? = some fn) (hb : fn.body = some c) (hn : FnOK P f) {args : List PV} {h0 h1 : List Chunk} {r : PV} (hl : args.length ≤ fn.ntmps)
    (hle : h0.length ≤ h1.length) (hba : belowL h0.length args = true) (hbh : belowH h0.length h0 = true) (hp : swp P fn.ntmps h0.length c (RetM P h0.length T fn.results.toList r h1) (argP args 0) h0) : MSpec P f args h0 r h1 := by
  refine ⟨hn, hle, hba, hbh, fun X hXP hXn hXm w cx vs hc hargs => ?_⟩
  subst hXP
  have hvl : vs.length = args.length := hargs.1.symm
  have hreal : Real { X with n := fn.ntmps } (mkF (argP args 0) h0) { tmps := vs.toArray ++ Array.replicate (fn.ntmps - vs.toArray.size) undef, defers := [] } w :=
    ⟨cx, by simp; omega, rfl, hc.ext, hc.fresh, hc.mu, hc.new, hc.apart, fun t => args_env hargs t, hc.chunk, hc.lent⟩
  refine calls_of_wp hf hb (wp_mono (hp { X with n := fn.ntmps } rfl rfl hXm _ _ hreal) fun ex a w' hq => ?_)
  obtain ⟨e, h, ⟨hx, ps, hret, hweak⟩, hr⟩ := hq
  obtain ⟨c2, hc2⟩ := hr
  obtain ⟨v, hrun, hrep⟩ := ret_all (X := { X with n := fn.ntmps }) hTQ hc2 hret
  have hr3 : Real { X with n := 1 } (mkF [(0, retP ps)] h) { tmps := #[v], defers := [] } w' := by
    refine ⟨c2, rfl, rfl, hc2.ext, hc2.fresh, hc2.mu, hc2.new, hc2.apart, fun t => ?_, hc2.chunk, hc2.lent⟩
    simp only [mkF, look]
    by_cases ht : t = 0
    · subst ht
      rw [if_pos rfl]
      exact hrep
    · rw [if_neg ht]
      exact .any _
  obtain ⟨c3, hc3⟩ := hweak { X with n := 1 } rfl rfl hXm _ _ hr3
  have hv3 : RepP c3 w' r v := hc3.env 0
  have hfin : RealC X (mkF [] h1) act0 w' c3 := ⟨hXn.symm, rfl, hc3.ext, hc3.fresh, hc3.mu, hc3.new, hc3.apart, fun t => .any _, hc3.chunk, hc3.lent⟩
  rcases hx with rfl | rfl
  · exact ⟨hc2.defers, v, hrun, v, c3, rfl, hv3, hfin⟩
  · exact ⟨hc2.defers, v, hrun, v, c3, rfl, hv3, hfin⟩
end Go.Proofs.Ytflbpkgnadjokaa
namespace Go.Proofs.Ytflbpkgnadjokaa
open Go Go.RowKit
def qPost (W : World) (R : Value → Prop) (e : Ending) (w' : World) : Prop := (∃ u, e = .returned u ∧ R u) ∧ Ext W w'
def qUp (P : Program) (W w : World) (R : Value → Prop) : Result Next → Prop
  | .ok (.value u) w' => w' = w ∧ R u
  | .ok .skip w' => w' = w ∧ R undef
  | .ok (.enter f args) w' => w' = w ∧ Calls P f args w (qPost W R)
  | _ => False
attribute [go_sem] qUp
section
variable {P : Program} {ops : Array Oper} {W : World} {Q : Act → Prop} {o : Oper} {rest : List Oper} {a : Act}
theorem qUp_quiet {w : World} {v : Value} {r : Result Next} (h : ∀ R : Value → Prop, R v → qUp P W w R r) : Oper.quietUpon P (Ext W) w v r := by
  have h1 := h (· = v) rfl
  unfold qUp at h1
  unfold Oper.quietUpon
  split at h1
  · exact h1
  · exact ⟨h1.1, h1.2.symm⟩
  · refine ⟨h1.1, h1.2.mono ?_⟩
    rintro e w' ⟨⟨u, rfl, rfl⟩, hw⟩
    exact ⟨rfl, hw⟩
  · exact h1.elim
theorem quiet_take {v : Value} (hw : Region.wanted o (yielded ops a.tmps) = true) (h : ∀ w, Ext W w → ∀ R : Value → Prop, R v → qUp P W w R ((execOp a.eval o).run P w))
    (hn : wpQuiet P ops (Ext W) Q rest (a.put o.dst v)) : wpQuiet P ops (Ext W) Q (o :: rest) a := by
  unfold wpQuiet
  rw [if_pos hw]
  exact ⟨v, fun w hC => qUp_quiet (h w hC), hn⟩
theorem quiet_skip (hw : Region.wanted o (yielded ops a.tmps) = false) (hn : wpQuiet P ops (Ext W) Q rest (a.put o.dst undef)) : wpQuiet P ops (Ext W) Q (o :: rest) a := by
  unfold wpQuiet
  rw [if_neg (by rw [hw]; simp)]
  exact hn
section
variable {j d : Nat} {v : Value} {W : World} {Q : Act → Prop}
theorem yields_bool {b : Bool} (hd : (ops[j]?).bind (·.dst) = some d) (hv : a.tmps.toList[d]? = some v) (hb : v = .bool b) : yielded ops a.tmps j = some b := by
  subst hb
  rw [Array.getElem?_toList] at hv
  simp [yielded, hd, hv]
theorem yields_undef (hd : (ops[j]?).bind (·.dst) = some d) (hv : a.tmps.toList[d]? = some v) (hb : v = undef) : yielded ops a.tmps j = none := by
  subst hb
  rw [Array.getElem?_toList] at hv
  simp [yielded, hd, hv, undef]
theorem skip_t (hg : o.guard = some (j, true)) (hd : (ops[j]?).bind (·.dst) = some d) (hv : a.tmps.toList[d]? = some v) (hb : v = .bool false) (hn : wpQuiet P ops (Ext W) Q rest (a.put o.dst undef)) : wpQuiet P ops (Ext W) Q (o :: rest) a :=
  quiet_skip (by simp [Region.wanted, hg, yields_bool hd hv hb]) hn
theorem skip_f (hg : o.guard = some (j, false)) (hd : (ops[j]?).bind (·.dst) = some d) (hv : a.tmps.toList[d]? = some v) (hb : v = .bool true) (hn : wpQuiet P ops (Ext W) Q rest (a.put o.dst undef)) : wpQuiet P ops (Ext W) Q (o :: rest) a :=
  quiet_skip (by simp [Region.wanted, hg, yields_bool hd hv hb]) hn
theorem skip_u {b : Bool} (hg : o.guard = some (j, b)) (hd : (ops[j]?).bind (·.dst) = some d) (hv : a.tmps.toList[d]? = some v) (hb : v = undef) (hn : wpQuiet P ops (Ext W) Q rest (a.put o.dst undef)) : wpQuiet P ops (Ext W) Q (o :: rest) a :=
  quiet_skip (by simp [Region.wanted, hg, yields_undef hd hv hb]) hn
theorem want_0 (hg : o.guard = none) : Region.wanted o (yielded ops a.tmps) = true := by simp [Region.wanted, hg]
theorem want_b {b : Bool} (hg : o.guard = some (j, b)) (hd : (ops[j]?).bind (·.dst) = some d) (hv : a.tmps.toList[d]? = some v) (hb : v = .bool b) : Region.wanted o (yielded ops a.tmps) = true := by
  simp [Region.wanted, hg, yields_bool hd hv hb]
end
theorem callq {f : FuncId} {args : Array Value} {w : World} {R : Value → Prop} {v : Value} (hw : Ext W w) (h : Calls P f args w fun e w' => e = .returned v ∧ Ext w w') (hR : R v) : Calls P f args w (qPost W R) :=
  h.mono fun _ _ ⟨he, hx⟩ => ⟨⟨v, he, hR⟩, hw.trans (hx.mono hw.size)⟩
theorem callq_same {f : FuncId} {args : Array Value} {w : World} {R : Value → Prop} {v : Value} (hw : Ext W w) (h : Calls P f args w fun e w' => e = .returned v ∧ w = w') (hR : R v) : Calls P f args w (qPost W R) :=
  h.mono fun _ _ ⟨he, hx⟩ => ⟨⟨v, he, hR⟩, hx ▸ hw⟩
theorem region_ext {id : Nat} {Q : Exit → Act → World → Prop} {w : World} {l : List Oper} (hm : P.follows .mixedOrders = true) (hB : Region.lexB .any l.toArray = true)
    (h : wpQuiet P l.toArray (Ext w) (fun a' => ∀ w', Ext w w' → Q .normal a' w') l a) : (Code.region id l.toArray true).wp P Q a w :=
  wp_region_quiet (C := Ext w) hm hB (Below.refl _ _).drew (by simpa using h)
end
section
variable {P : Program} {ops : Array Oper} {w : World} {Q : Exit → Act → World → Prop} {a : Act} {n : Nat} {listed : Array Bool}
/-- The region, order by order: its beginning. -/
theorem region_any {id : Nat} {l : List Oper} (hm : P.follows .mixedOrders = true)
    (h : wpAny P .any l.toArray Q l.length (Array.replicate l.length false) a w.drew) : (Code.region id l.toArray true).wp P Q a w :=
  wp_region_any hm (by simpa using h)
/-- One operation alone can come next. -/
theorem any_one (k : Nat) {o : Oper} {r : List Nat} (hr : Region.ready .any ops listed = r) (hk : r = [k]) (ho : ops[k]? = some o)
    (h : ∀ K' : Act → World → Prop, (∀ a w, wpAny P .any ops Q n (listed.setIfInBounds k true) a w → K' a w) → if Region.wanted o (yielded ops a.tmps) then o.wp P a w K' Q else K' (a.put o.dst undef) w) :
    wpAny P .any ops Q (n + 1) listed a w := by
  have h := h _ (fun _ _ h => h)
  subst hk
  refine ⟨fun h0 => by rw [hr] at h0; simp at h0, fun i hi => ?_⟩
  rw [hr] at hi
  obtain rfl : i = k := by simpa using hi
  unfold wpOp
  simp only [ho]
  split
  · rename_i hw; rw [if_pos hw] at h; exact .inl h
  · rename_i hw; rw [if_neg hw] at h; exact h
/-- One of two operations can come next. -/
theorem any_two (j k : Nat) {p o : Oper} {r : List Nat} (hr : Region.ready .any ops listed = r) (hk : r = [j, k]) (hp : ops[j]? = some p) (ho : ops[k]? = some o)
    (h1 : ∀ K' : Act → World → Prop, (∀ a w, wpAny P .any ops Q n (listed.setIfInBounds j true) a w → K' a w) → if Region.wanted p (yielded ops a.tmps) then p.wp P a w K' Q else K' (a.put p.dst undef) w)
    (h2 : ∀ K' : Act → World → Prop, (∀ a w, wpAny P .any ops Q n (listed.setIfInBounds k true) a w → K' a w) → if Region.wanted o (yielded ops a.tmps) then o.wp P a w K' Q else K' (a.put o.dst undef) w) :
    wpAny P .any ops Q (n + 1) listed a w := by
  have h1 := h1 _ (fun _ _ h => h)
  have h2 := h2 _ (fun _ _ h => h)
  subst hk
  refine ⟨fun h0 => by rw [hr] at h0; simp at h0, fun i hi => ?_⟩
  rw [hr] at hi
  simp at hi
  rcases hi with rfl | rfl
  · unfold wpOp
    simp only [hp]
    split
    · rename_i hw; rw [if_pos hw] at h1; exact .inl h1
    · rename_i hw; rw [if_neg hw] at h1; exact h1
  · unfold wpOp
    simp only [ho]
    split
    · rename_i hw; rw [if_pos hw] at h2; exact .inl h2
    · rename_i hw; rw [if_neg hw] at h2; exact h2
/-- From operation k on all are quiet: one walk in the order of the text. -/
theorem any_quiet (k : Nat) {l : List Oper} (hn : (l.drop k).length = n) (hs : Region.noSelect l.toArray = true) (hB : Region.lexFrom .any l.toArray n k listed = true)
    (h : wpQuiet P l.toArray (Ext w) (fun a' => ∀ w', Ext w w' → Q .normal a' w') (l.drop k) a) : wpAny P .any l.toArray Q n listed a w := by
  subst hn
  refine wpAny_of_quiet (C := Ext w) (Q := fun a' => ∀ w', Ext w w' → Q .normal a' w') (fun _ w' hw' h => h w' hw') _ _ _ _ (Below.refl _ _) ?_
  exact wpAnyQ_lex hs _ k listed a (fun j => by simp) hB h
/-- All is done. -/
theorem any_done (hr : Region.ready .any ops listed = []) (h : Q .normal a w) : wpAny P .any ops Q 0 listed a w := ⟨hr, h⟩
end
theorem ret_int {k : IntKind} {a b : Int} (h : a = b) : Ending.returned (.int k a) = .returned (.int k b) := by rw [h]
theorem ret_bool {a b : Bool} (h : a = b) : Ending.returned (.bool a) = .returned (.bool b) := by rw [h]
end Go.Proofs.Ytflbpkgnadjokaa
namespace Go.Proofs.Ytflbpkgnadjokaa
open Go Go.RowKit Go.Proofs
theorem ofInt_i64 (a : Nat) (ha : a < 9223372036854775808) : (BitVec.ofInt 64 (a : Int)).toNat = a := by
  rw [BitVec.ofInt_natCast, BitVec.toNat_ofNat]; exact Nat.mod_eq_of_lt (by omega)
theorem i64_and_nat (a b : Nat) (ha : a < 9223372036854775808) (hb : b < 9223372036854775808) : bits .and .i64 (a : Int) (b : Int) = ((a &&& b : Nat) : Int) := by
  have hx : a &&& b < 2 ^ 63 := Nat.and_lt_two_pow _ (by omega)
  show IntKind.i64.wrap ((BitVec.ofInt 64 (a : Int) &&& BitVec.ofInt 64 (b : Int)).toNat : Int) = _
  rw [BitVec.toNat_and, ofInt_i64 a ha, ofInt_i64 b hb, IntKind.wrap_i64]
  omega
end Go.Proofs.Ytflbpkgnadjokaa
namespace Go.Proofs.Ytflbpkgnadjokaa
open Go Go.RowKit
def tabT : Nat → Option TI
  | 3 => some { agg := false, size := 1, bytes := 8, zero := [.int .i64 0], fields := [], elem := none, int := some .i64, kind := 0 }
  | 4 => some { agg := false, size := 1, bytes := 1, zero := [.bool false], fields := [], elem := none, int := none, kind := 1 }
  | 27 => some { agg := false, size := 1, bytes := 8, zero := [.int .i64 0], fields := [], elem := none, int := some .i64, kind := 0 }
  | 23 => some { agg := true, size := 2, bytes := 16, zero := [.int .i64 0, .int .i64 0], fields := [(0, 1), (1, 1)], elem := none, int := none, kind := 0 }
  | 26 => some { agg := true, size := 3, bytes := 40, zero := [.int .i64 0, .int .i64 0, .slice none 0 0], fields := [(0, 2), (2, 1)], elem := none, int := none, kind := 0 }
  | 24 => some { agg := false, size := 1, bytes := 24, zero := [.slice none 0 0], fields := [], elem := some 23, int := none, kind := 0 }
  | 5 => some { agg := false, size := 1, bytes := 1, zero := [.int .u8 0], fields := [], elem := none, int := some .u8, kind := 0 }
  | 9 => some { agg := false, size := 1, bytes := 16, zero := [.string ByteArray.empty], fields := [], elem := none, int := none, kind := 2 }
  | 69 => some { agg := false, size := 1, bytes := 8, zero := [.int .u64 0], fields := [], elem := none, int := some .u64, kind := 0 }
  | 84 => some { agg := false, size := 1, bytes := 8, zero := [.int .u64 0], fields := [], elem := none, int := some .u64, kind := 0 }
  | _ => none
theorem tabT_ok : ∀ t ti, tabT t = some ti → tcheck Try.prog t = some ti := by
  intro t ti h
  unfold tabT at h
  split at h <;> first | (cases h; kernel_rfl) | cases h
theorem eq_Prefix : EqOK Try.prog 23 2 := by
  intro w xs ys x y op hx hy hop
  match xs, ys, hx, hy with
  | [a0, a1], [b0, b1], _, _ =>
    clear hx hy
    rcases hop with rfl | rfl <;> (simp only [List.map_cons, List.map_nil]; go_simp) <;> by_cases h0 : a0 = b0 <;> by_cases h1 : a1 = b1 <;> simp [bne, h0, h1]
def tabQ : Nat → Option Nat
  | 23 => some 2
  | _ => none
theorem tab_ok : TabOK Try.prog tabT tabQ := by
  refine ⟨tabT_ok, fun t n h => ?_⟩
  unfold tabQ at h
  split at h
  · cases h; exact eq_Prefix
  · cases h
end Go.Proofs.Ytflbpkgnadjokaa
namespace Go.Proofs.Ytflbpkgnadjokaa
open Go Go.RowKit
theorem fnok_of {P : Program} {f : Nat} {fn : Func} {c : Code} (hf : P.funcs[f]? = some fn) (hname : (fn.name == "runtime.NumGoroutine") = false) (hb : fn.body = some c) : FnOK P f := by
  intro args w
  simp [callFunc, hf, hb]
  simpa using hname
theorem ob_tt : (some true == some true) = true := rfl
theorem ob_ff : (some false == some false) = true := rfl
theorem ob_tf : (some true == some false) = false := rfl
theorem ob_ft : (some false == some true) = false := rfl
theorem ob_nt : ((none : Option Bool) == some true) = false := rfl
theorem ob_nf : ((none : Option Bool) == some false) = false := rfl
section
variable {P : Program} {n m : Nat} {T : Nat → Option TI} {Q : Nat → Option Nat} {K : Exit → Env → List Chunk → Prop} {e : Env} {h : List Chunk}
/-- What follows a normal end; all else is handed on. -/
def seqK (C : Env → List Chunk → Prop) (K : Exit → Env → List Chunk → Prop) : Exit → Env → List Chunk → Prop
  | .normal, e, h => C e h
  | x, e, h => K x e h
theorem seqK_normal (C : Env → List Chunk → Prop) : seqK C K .normal e h = C e h := rfl
theorem seqK_exit (C : Env → List Chunk → Prop) (i : Nat) : seqK C K (.exit i) e h = K (.exit i) e h := rfl
theorem seqK_ret (C : Env → List Chunk → Prop) : seqK C K .ret e h = K .ret e h := rfl
theorem seqK_nor (C : Env → List Chunk → Prop) : seqK C K .normal = C := rfl
theorem swp_weak {c : Code} {e' : Env} {h' : List Chunk} (hw : Weak P n m e h e' h') (hp : swp P n m c K e' h') : swp P n m c K e h := fun X hX hn hm a w hr => hp X hX hn hm a w (hw X hX hn hm a w hr)
theorem pwp_seq {a b : Code} (hp : ∀ C : Env → List Chunk → Prop, (∀ e h, swp P n m b K e h → C e h) → swp P n m a (seqK C K) e h) : swp P n m (.seq a b) K e h := by
  intro X hX hn hXm ac w hr
  have := hp (fun e h => swp P n m b K e h) (fun _ _ h => h) X hX hn hXm ac w hr
  refine wp_seq (wp_mono this fun ex a' w' hq => ?_)
  obtain ⟨e', h', hk, hr'⟩ := hq
  cases ex with
  | normal => exact hk X hX hn hXm a' w' hr'
  | _ => exact ⟨e', h', hk, hr'⟩
/-- A block's end. -/
def blkK (id : Nat) (C : Env → List Chunk → Prop) (K : Exit → Env → List Chunk → Prop) : Exit → Env → List Chunk → Prop
  | .normal, e, h => C e h
  | .exit i, e, h => if i = id then C e h else K (.exit i) e h
  | x, e, h => K x e h
theorem blkK_normal (id : Nat) (C : Env → List Chunk → Prop) : blkK id C K .normal e h = C e h := rfl
theorem blkK_nor (id : Nat) (C : Env → List Chunk → Prop) : blkK id C K .normal = C := rfl
theorem blkK_ret (id : Nat) (C : Env → List Chunk → Prop) : blkK id C K .ret e h = K .ret e h := rfl
theorem blkK_exit (id i : Nat) (C : Env → List Chunk → Prop) : blkK id C K (.exit i) e h = if i = id then C e h else K (.exit i) e h := rfl
theorem pwp_block {id : Nat} {c : Code} (hp : ∀ C : Env → List Chunk → Prop, (∀ e h, K .normal e h → C e h) → swp P n m c (blkK id C K) e h) : swp P n m (.block id c) K e h := by
  intro X hX hn hXm ac w hr
  have := hp (fun e h => K .normal e h) (fun _ _ h => h) X hX hn hXm ac w hr
  refine wp_block (wp_mono this fun ex a' w' hq => ?_)
  obtain ⟨e', h', hk, hr'⟩ := hq
  cases ex with
  | exit i =>
    simp only [Exit.inBlock, blkK] at *
    by_cases hi : i = id
    · rw [if_pos hi] at hk ⊢
      exact ⟨e', h', hk, hr'⟩
    · rw [if_neg hi] at hk ⊢
      exact ⟨e', h', hk, hr'⟩
  | _ => exact ⟨e', h', hk, hr'⟩
theorem swp_region (hTQ : TabOK P T Q) (hmix : P.follows .mixedOrders = true) {id : Nat} {ops : List Oper} {ds : List (Option Nat)} {draw : Bool} (hml : m ≤ h.length) (hds : ops.map (·.dst) = ds)
    (hp : ∀ ops' : Array Oper, ops' = ⟨ops⟩ → sOps P n T Q draw ops' ds ops e h [] (K .normal)) : swp P n m (.region id ⟨ops⟩ draw) K e h := by
  intro X hX hn hXm a w hr
  subst hX
  subst hn
  subst hXm
  refine region_sound hTQ hmix (K := K .normal) hml ?_ hr fun e' h' a' w' hk hr' => ⟨e', h', hk, hr'⟩
  rw [show (⟨ops⟩ : Array Oper).toList = ops from rfl, hds]
  exact hp _ rfl
theorem swp_region_id {id : Nat} {ops : Array Oper} {draw : Bool} (hp : swp P n m (.region id ops draw) K e h) : swp P n m (.region id ops draw) K e h := hp
def grdO (P : Program) (g : Option Bool) (r : SR) (dst : Option Nat) (e : Env) (h : List Chunk) (sm : List (List Nat × List Nat)) (R : Env → List Chunk → List (List Nat × List Nat) → Prop) : Prop :=
  match g with
  | some true => runO P r dst e h sm R
  | some false => R (putE e dst (.d (.v undef))) h (([], []) :: sm)
  | none => False
section
variable {sm : List (List Nat × List Nat)} {dst : Option Nat} {R : Env → List Chunk → List (List Nat × List Nat) → Prop}
theorem grdO_t (r : SR) : grdO P (some true) r dst e h sm R = runO P r dst e h sm R := rfl
theorem grdO_f (r : SR) : grdO P (some false) r dst e h sm R = R (putE e dst (.d (.v undef))) h (([], []) :: sm) := rfl
theorem runO_res (p : PV) (eff : List (Nat × Chunk)) (touch : List Nat) (side : Prop) : runO P (.res p eff touch side) dst e h sm R = (side ∧ (eff.all fun kc => decide (kc.1 ≤ h.length)) = true ∧ R (putE e dst p) (effC eff h) ((eff.map (·.1), touch) :: sm)) := rfl
/-- A call, by data. -/
theorem runO_P {g : Nat} {ps : List PV} {ds : List D} {r : D} (hv : vwL (hatL h) ps = some ds) (hp : PSpec P g ds r) (hf : tcL (hatL h) ps = [] ∨ r.flat = true) (hR : R (putE e dst (.d r)) h (([], tcL (hatL h) ps) :: sm)) : runO P (.call g ps) dst e h sm R :=
  .inl ⟨ds, r, hv, hp, hf, hR⟩
/-- A call that chunks are lent to. -/
theorem runO_M (ls : List Nat) {g : Nat} {ps args : List PV} {h0 h1 : List Chunk} {r : PV} (hM : MSpec P g args h0 r h1) (hps : ps = renL (rid ls h.length) args) (hl : ls.length = h0.length) (hnd : ls.Nodup) (hlt : ∀ k ∈ ls, k < h.length) (hlent : lentOK (hatL h) (rid ls h.length) 0 h0)
    (hR : R (putE e dst (ren (rid ls h.length) r)) (heapM (rid ls h.length) 0 h1 h) ((mids ls h.length h1.length, mids ls h.length h1.length) :: sm)) : runO P (.call g ps) dst e h sm R :=
  .inr ⟨ls, args, h0, r, h1, hM, hps, hl, hnd, hlt, hlent, hR⟩
end
theorem sOps_cons {draw : Bool} {ops : Array Oper} {ds : List (Option Nat)} {o : Oper} {l : List Oper} {sm : List (List Nat × List Nat)} {K : Env → List Chunk → Prop} (hd : dstB n o = true)
    (hp : ∀ R : Env → List Chunk → List (List Nat × List Nat) → Prop, (∀ e h sm, sOps P n T Q draw ops ds l e h sm K → R e h sm) → grdO P (guardD ds e o) (opS T Q e h o) o.dst e h sm R) : sOps P n T Q draw ops ds (o :: l) e h sm K := by
  have hp := hp (sOps P n T Q draw ops ds l · · · K) fun _ _ _ h => h
  unfold sOps
  unfold grdO at hp
  split at hp
  · rename_i g hg
    rw [hg]
    exact ⟨hd, fun _ => hp, fun h => by cases h⟩
  · rename_i g hg
    rw [hg]
    exact ⟨hd, (fun h => (by cases h)), fun _ => hp⟩
  · exact hp.elim
theorem sOps_nil {ops : Array Oper} {ds : List (Option Nat)} {sm : List (List Nat × List Nat)} {K : Env → List Chunk → Prop} (hk : K e h) : sOps P n T Q false ops ds [] e h sm K := ⟨(fun h => (by cases h)), hk⟩
theorem sOps_nild {ops ops0 : Array Oper} {ds : List (Option Nat)} {sm : List (List Nat × List Nat)} {K : Env → List Chunk → Prop} (ho : ops = ops0) (hi : (indepB ops0 sm.reverse && edgesB ops0) = true) (hk : K e h) : sOps P n T Q true ops ds [] e h sm K := ⟨fun _ => by rw [ho]; exact hi, hk⟩
theorem pwp_cond {c : Operand} {a b : Code} {t : Bool} (hc : evL e c = .d (.v (.bool t))) (h1 : t = true → swp P n m a K e h) (h2 : t = false → swp P n m b K e h) : swp P n m (.cond c a b) K e h := by
  intro X hX hn hXm ac w hr
  have hv : ac.eval c = .bool t := by
    obtain ⟨cx, hcx⟩ := hr
    exact ev_v' hcx ((ev_mk e h c).trans hc)
  refine wp_cond hv ?_
  cases t with
  | true => exact h1 rfl X hX hn hXm ac w hr
  | false => exact h2 rfl X hX hn hXm ac w hr
theorem pwp_cond_t {c : Operand} {a b : Code} (hc : evL e c = .d (.v (.bool true))) (h1 : swp P n m a K e h) : swp P n m (.cond c a b) K e h := pwp_cond hc (fun _ => h1) (fun h => by cases h)
theorem pwp_cond_f {c : Operand} {a b : Code} (hc : evL e c = .d (.v (.bool false))) (h1 : swp P n m b K e h) : swp P n m (.cond c a b) K e h := pwp_cond hc (fun h => by cases h) (fun _ => h1)
theorem pwp_skip (h1 : K .normal e h) : swp P n m .skip K e h := fun X _ _ _ a w hr => wp_skip ⟨e, h, h1, hr⟩
theorem pwp_exit {id : Nat} (h1 : K (.exit id) e h) : swp P n m (.exit id) K e h := fun X _ _ _ a w hr => wp_exit ⟨e, h, h1, hr⟩
theorem pwp_ret (h1 : K .ret e h) : swp P n m .ret K e h := fun X _ _ _ a w hr => wp_ret ⟨e, h, h1, hr⟩
theorem pwp_label {l : Nat} (h1 : K .normal e h) : swp P n m (.label l) K e h := fun X _ _ _ a w hr => wp_label ⟨e, h, h1, hr⟩
theorem seqK_x (C : Env → List Chunk → Prop) (i : Nat) (h1 : K (.exit i) e h) : seqK C K (.exit i) e h := h1
theorem seqK_r (C : Env → List Chunk → Prop) (h1 : K .ret e h) : seqK C K .ret e h := h1
theorem seqK_n (C : Env → List Chunk → Prop) (h1 : C e h) : seqK C K .normal e h := h1
theorem blkK_n (id : Nat) (C : Env → List Chunk → Prop) (h1 : C e h) : blkK id C K .normal e h := h1
theorem blkK_r (id : Nat) (C : Env → List Chunk → Prop) (h1 : K .ret e h) : blkK id C K .ret e h := h1
theorem blkK_x (id i : Nat) (C : Env → List Chunk → Prop) (hi : ¬ i = id) (h1 : K (.exit i) e h) : blkK id C K (.exit i) e h := by rw [blkK_exit, if_neg hi]; exact h1
theorem blkK_h (id : Nat) (C : Env → List Chunk → Prop) (h1 : C e h) : blkK id C K (.exit id) e h := by rw [blkK_exit, if_pos rfl]; exact h1
/-- A loop, by what holds at each round's head; the number goes down. -/
theorem pwp_loop {c : Code} (I : Nat → Env → List Chunk → Prop) (mm : Nat) (e1 : Env) (h1 : List Chunk) (h0 : I mm e1 h1) (hw : Weak P n m e h e1 h1)
    (hr : ∀ k e h, I k e h → ∀ C : Env → List Chunk → Prop, (∀ k' e1 h1 e h, k' < k → I k' e1 h1 → Weak P n m e h e1 h1 → C e h) → swp P n m c (seqK C K) e h) : swp P n m (.loop c) K e h := by
  intro X hX hn hXm a w hreal
  refine wp_loop_ghost (fun k a w => ∃ e h, I k e h ∧ Real X (mkF e h) a w) mm ⟨e1, h1, h0, hw X hX hn hXm a w hreal⟩ ?_
  rintro k a w ⟨e, h, hI, hreal⟩
  have := hr k e h hI (fun e' h' => ∃ k' e1 h1, k' < k ∧ I k' e1 h1 ∧ Weak P n m e' h' e1 h1) (fun k' e1 h1 e h a b c => ⟨k', e1, h1, a, b, c⟩) X hX hn hXm a w hreal
  refine wp_mono this fun ex a' w' hq => ?_
  obtain ⟨e', h', hk, hr'⟩ := hq
  cases ex with
  | normal =>
    obtain ⟨k', e2, h2, hlt, hI2, hw2⟩ := hk
    exact ⟨k', hlt, e2, h2, hI2, hw2 X hX hn hXm a' w' hr'⟩
  | _ => exact ⟨e', h', hk, hr'⟩
end
/-- Only these slots. -/
def tabE (e : Env) : List Nat → Env
  | [] => []
  | b :: l => (b, look e b) :: tabE e l
def rg : Nat → List Nat
  | 0 => []
  | n + 1 => n :: rg n
theorem look_tabE (e : Env) : ∀ (l : List Nat) (t : Nat), look (tabE e l) t = .any ∨ look (tabE e l) t = look e t
  | [], _ => .inl rfl
  | b :: l, t => by
    simp only [tabE, look]
    by_cases h : t = b
    · rw [if_pos h, h]; exact .inr rfl
    · rw [if_neg h]; exact look_tabE e l t
theorem weak_look {P : Program} {n m : Nat} {e e' : Env} {h : List Chunk} (hl : ∀ t, look e' t = .any ∨ look e' t = look e t) : Weak P n m e h e' h := by
  intro X _ _ _ a w hr
  obtain ⟨c, hc⟩ := hr
  refine ⟨c, hc.size, hc.defers, hc.ext, hc.fresh, hc.mu, hc.new, hc.apart, fun t => ?_, hc.chunk, hc.lent⟩
  show RepP c w (look e' t) _
  rcases hl t with h | h
  · rw [h]; exact .any _
  · rw [h]; exact hc.env t
/-- Only some slots are kept. -/
theorem swp_prune {P : Program} {n m : Nat} {c : Code} {K : Exit → Env → List Chunk → Prop} {e : Env} {h : List Chunk} (B : List Nat) (hp : swp P n m c K (tabE e B) h) : swp P n m c K e h := swp_weak (weak_look (look_tabE e B)) hp
theorem mixed : Try.prog.follows .mixedOrders = true := by kernel_rfl
theorem Weak.refl (P : Program) (n m : Nat) (e : Env) (h : List Chunk) : Weak P n m e h e h := fun _ _ _ _ _ _ h => h
theorem dRows_get (l : List (List D)) (i : Nat) : (dRows l)[i]? = (l[i]?).map (·.map .d) := by simp [dRows]
theorem dRows_len (l : List (List D)) : (dRows l).length = l.length := by simp [dRows]
theorem dRows_app (a b : List (List D)) : dRows a ++ dRows b = dRows (a ++ b) := by simp [dRows]
theorem belowR_set (n : Nat) : ∀ (l : List (List PV)) (i : Nat) (r : List PV), belowR n l = true → belowL n r = true → belowR n (l.set i r) = true
  | [], _, _, _, _ => rfl
  | a :: l, 0, r, h, hr => by
    simp only [belowR, Bool.and_eq_true] at h
    simp only [List.set_cons_zero, belowR, hr, h.2, Bool.and_self]
  | a :: l, i + 1, r, h, hr => by
    simp only [belowR, Bool.and_eq_true] at h
    simp only [List.set_cons_succ, belowR, h.1, belowR_set n l i r h.2 hr, Bool.and_self]
theorem viewL_v (h : Nat → Chunk) (l : List D) : viewL (vw h) (l.map .d) = some l := viewL_d h 6 l
theorem tchL_t (h : Nat → Chunk) (l : List D) : tchL (tc h) (l.map .d) = [] := tchL_d h 6 l
end Go.Proofs.Ytflbpkgnadjokaa
namespace Go.Proofs.Ytflbpkgnadjokaa
open Go Go.RowKit
theorem hatL_lt {h : List Chunk} {k : Nat} (hk : hatL h k ≠ .none) : k < h.length := by
  induction h generalizing k with
  | nil => simp [hatL] at hk
  | cons c l ih =>
    cases k with
    | zero => simp
    | succ k => simpa using ih (by simpa [hatL] using hk)
def Cx.cut (c : Cx) (n : Nat) : Cx := { M := c.M, bl := fun k => if k < n then c.bl k else none, ov := fun k g => if k < n then c.ov k g else none }
theorem RepP.cut {c : Cx} {w : World} {n : Nat} {p : PV} {v : Value} (h : RepP c w p v) : belowP n p = true → RepP (c.cut n) w p v := by
  induction h with
  | d x v h => intro _; exact .d x v h
  | any v => intro _; exact .any v
  | ptr k off b h => intro hb; simp only [belowP, decide_eq_true_eq] at hb; exact .ptr k off b (by show (if k < n then c.bl k else none) = _; rw [if_pos hb]; exact h)
  | own k g v h h1 => intro hb; simp only [belowP, decide_eq_true_eq] at hb; exact .own k g v (by show (if k < n then c.ov k g else none) = _; rw [if_pos hb]; exact h) h1
  | rp k g sz i j b m cap h => intro hb; simp only [belowP, decide_eq_true_eq] at hb; exact .rp k g sz i j b m cap (by show (if k < n then c.ov k g else none) = _; rw [if_pos hb]; exact h)
  | osl k g sz a m b o N cap h hn hc h2 => intro hb; simp only [belowP, decide_eq_true_eq] at hb; exact .osl k g sz a m b o N cap (by show (if k < n then c.ov k g else none) = _; rw [if_pos hb]; exact h) hn hc h2
  | mref k b h => intro hb; simp only [belowP, decide_eq_true_eq] at hb; exact .mref k b (by show (if k < n then c.bl k else none) = _; rw [if_pos hb]; exact h)
  | agg caps vs hl h1 hrep ih =>
    intro hb
    simp only [belowP] at hb
    exact .agg caps vs hl h1 fun j d x hj hx => ih j d x hj hx (belowL_mem hb d (List.mem_of_getElem? hj))
  | tup caps vs hl hrep ih =>
    intro hb
    simp only [belowP] at hb
    exact .tup caps vs hl fun j d x hj hx => ih j d x hj hx (belowL_mem hb d (List.mem_of_getElem? hj))
  | clo g caps vs hl hrep ih =>
    intro hb
    simp only [belowP] at hb
    exact .clo g caps vs hl fun j d x hj hx => ih j d x hj hx (belowL_mem hb d (List.mem_of_getElem? hj))
theorem look_sub : ∀ {e e' : Env}, subE e e' → ∀ t, look e' t = .any ∨ look e' t = look e t
  | _, [], _, _ => .inl rfl
  | e, (t', p) :: l, ⟨h1, h2⟩, t => by
    simp only [look]
    by_cases ht : t = t'
    · rw [if_pos ht, ht]; exact .inr h1.symm
    · rw [if_neg ht]; exact look_sub h2 t
theorem hat_app : ∀ (h x : List Chunk) (k : Nat), k < h.length → hatL (h ++ x) k = hatL h k
  | c :: l, x, 0, _ => rfl
  | c :: l, x, k + 1, hk => by simpa [hatL] using hat_app l x k (by simpa using hk)
theorem hat_far : ∀ (h : List Chunk) (k : Nat), h.length ≤ k → hatL h k = .none
  | [], _, _ => rfl
  | c :: l, 0, h => by simp at h
  | c :: l, k + 1, h => by simpa [hatL] using hat_far l k (by simpa using h)
/-- Forget slots and the last chunks. -/
theorem weak_forget {P : Program} {n m : Nat} {e e' : Env} {h h' : List Chunk} (x : List Chunk) (hm : m ≤ h'.length) (hh : h = h' ++ x) (he : subE e e') (hb : belowE h'.length e' = true) (hbh : belowH h'.length h' = true) : Weak P n m e h e' h' := by
  intro X _ _ hXm a w hr
  obtain ⟨c, hc⟩ := hr
  subst hh
  have hf := hc.freeze ((List.range x.length).map (h'.length + ·))
  have hmem : ∀ k, k ∈ (List.range x.length).map (h'.length + ·) ↔ h'.length ≤ k ∧ k < h'.length + x.length := by
    intro k
    simp only [List.mem_map, List.mem_range]
    constructor
    · rintro ⟨j, hj, rfl⟩; omega
    · intro hk; exact ⟨k - h'.length, by omega, by omega⟩
  have hlow : ∀ k, k < h'.length → effH (((List.range x.length).map (h'.length + ·)).map fun k => (k, .gone)) (hatL (h' ++ x)) k = hatL h' k := by
    intro k hk
    rw [effH_gone, if_neg (fun h => by have := (hmem k).1 h; omega), hat_app h' x k hk]
  have hhigh : ∀ k, h'.length ≤ k → ∀ c : Cx, c.block k (effH (((List.range x.length).map (h'.length + ·)).map fun k => (k, .gone)) (hatL (h' ++ x)) k) = none := by
    intro k hk c
    rw [effH_gone]
    split
    · rfl
    · rename_i hn
      have : h'.length + x.length ≤ k := by
        rcases Nat.lt_or_ge k (h'.length + x.length) with h1 | h1
        · exact absurd ((hmem k).2 ⟨hk, h1⟩) hn
        · exact h1
      rw [hat_far _ k (by simpa using this)]
      rfl
  generalize hcc : ({ c with M := lessM c (mkF e (h' ++ x)).heap ((List.range x.length).map (h'.length + ·)) } : Cx) = cc at hf
  have hblk : ∀ k, (cc.cut h'.length).block k (hatL h' k) = if k < h'.length then cc.block k (hatL h' k) else none := by
    intro k
    by_cases hk : k < h'.length
    · rw [if_pos hk]
      cases hatL h' k <;> simp [Cx.block, Cx.cut, hk]
    · rw [if_neg hk, hat_far h' k (by omega)]
      rfl
  have hold : ∀ k b, (cc.cut h'.length).block k (hatL h' k) = some b → cc.block k (effH (((List.range x.length).map (h'.length + ·)).map fun k => (k, .gone)) (hatL (h' ++ x)) k) = some b := by
    intro k b hb
    rw [hblk] at hb
    split at hb
    · rename_i hk; rw [hlow k hk]; exact hb
    · cases hb
  refine ⟨cc.cut h'.length, hf.size, hf.defers, hf.ext, hf.fresh, fun b => ?_, fun k b hb => hf.new k b (hold k b hb), fun k k' b hb hb' => hf.apart k k' b (hold k b hb) (hold k' b hb'), fun t => ?_, fun k => ?_, fun k hk => ?_⟩
  · show cc.M b ↔ _
    rw [hf.mu b]
    constructor
    · rintro (h0 | ⟨k, hk⟩)
      · exact .inl h0
      · refine .inr ⟨k, ?_⟩
        show (cc.cut h'.length).block k (hatL h' k) = _
        rw [hblk]
        rcases Nat.lt_or_ge k h'.length with h1 | h1
        · rw [if_pos h1]
          have := hlow k h1
          simp only [mkF] at hk
          rw [this] at hk
          exact hk
        · simp only [mkF] at hk
          rw [hhigh k h1] at hk
          cases hk
    · rintro (h0 | ⟨k, hk⟩)
      · exact .inl h0
      · exact .inr ⟨k, hold k b hk⟩
  · show RepP (cc.cut h'.length) w (look e' t) _
    rcases look_sub he t with h0 | h0
    · rw [h0]; exact .any _
    · have h1 := look_below hb t
      rw [h0] at h1 ⊢
      exact (hf.env t).cut h1
  · show ChunkOK (cc.cut h'.length) w k (hatL h' k)
    rcases Nat.lt_or_ge k h'.length with h1 | h1
    · have hck := hf.chunk k
      simp only [mkF] at hck
      rw [hlow k h1] at hck
      have hbc := hat_below hbh k
      have hbl : (cc.cut h'.length).bl k = cc.bl k := by show (if k < h'.length then cc.bl k else none) = _; rw [if_pos h1]
      have hov : ∀ g, (cc.cut h'.length).ov k g = cc.ov k g := fun g => by show (if k < h'.length then cc.ov k g else none) = _; rw [if_pos h1]
      cases hch : hatL h' k with
      | none => rw [hch] at hck; cases hck with | none q1 q2 => exact .none (by rw [hbl]; exact q1) (fun g => by rw [hov]; exact q2 g)
      | gone => exact .gone
      | box T cells =>
        rw [hch] at hck hbc
        cases hck with
        | box _ _ b vs q1 q2 q3 q4 =>
          exact .box T cells b vs (by rw [hbl]; exact q1) q2 ⟨q3.1, fun j d v hj hv => (q3.2 j d v hj hv).cut (belowL_mem (by simpa [belowC] using hbc) d (List.mem_of_getElem? hj))⟩ q4
      | mp ents =>
        rw [hch] at hck
        cases hck with
        | mp _ b q1 q2 => exact .mp ents b (by rw [hbl]; exact q1) q2
      | row E sz g rows =>
        rw [hch] at hck hbc
        cases hck with
        | row _ _ _ _ v xs q1 q2 q3 q4 q5 q6 => exact .row E sz g rows v xs (by rw [hov]; exact q1) q2 ⟨q3.1, fun j d v hj hv => (q3.2 j d v hj hv).cut (belowL_mem (belowR_flat (by simpa [belowC] using hbc)) d (List.mem_of_getElem? hj))⟩ q4 q5 (fun g' hg => by rw [hov]; exact q6 g' hg)
    · rw [hat_far h' k h1]
      refine .none ?_ fun g => ?_
      · show (if k < h'.length then cc.bl k else none) = _; rw [if_neg (by omega)]
      · show (if k < h'.length then cc.ov k g else none) = _; rw [if_neg (by omega)]
  · have hk' : k < h'.length := by omega
    obtain ⟨q1, q2⟩ := hf.lent k hk
    refine ⟨?_, fun g v hv => ?_⟩
    · show (if k < h'.length then cc.bl k else none) = _; rw [if_pos hk']; exact q1
    · show (if k < h'.length then cc.ov k g else none) = _; rw [if_pos hk']; exact q2 g v hv
theorem Weak.trans {P : Program} {n m : Nat} {e e' e'' : Env} {h h' h'' : List Chunk} (h1 : Weak P n m e h e' h') (h2 : Weak P n m e' h' e'' h'') : Weak P n m e h e'' h'' := fun X hX hn hm a w hr => h2 X hX hn hm a w (h1 X hX hn hm a w hr)
theorem hat_snoc (h : List Chunk) (c : Chunk) (k : Nat) : hatL (h ++ [c]) k = if k = h.length then c else hatL h k := by
  rcases Nat.lt_trichotomy k h.length with h1 | h1 | h1
  · rw [hat_app h [c] k h1, if_neg (by omega)]
  · subst h1
    rw [if_pos rfl]
    induction h with
    | nil => rfl
    | cons a l ih => exact ih
  · rw [if_neg (by omega), hat_far _ k (by simp; omega), hat_far h k (by omega)]
/-- A nil slice in a slot, as a row of one's own. -/
theorem weak_adopt {P : Program} {n m : Nat} {e : Env} {h : List Chunk} (hml : m ≤ h.length) (t E sz : Nat) (ht : look e t = .d (.v (.slice none 0 0))) : Weak P n m e h ((t, .own h.length 0) :: e) (h ++ [.row E sz 0 []]) := by
  intro X _ _ hXm a w hr
  obtain ⟨c, hc⟩ := hr
  obtain ⟨c', q1, q2⟩ := hc.new_row (k := h.length) (w' := w) (hatL_end h) (by omega) E sz [] (.slice none 0 0) [] (Below.refl _ _) .nil (fun b hb => by cases hb) ⟨rfl, fun j d x h => by simp at h⟩ (by simp) (by simp)
  have hv : a.tmps.getD t undef = .slice none 0 0 := hc.bool ht
  refine ⟨c', q1.size, q1.defers, q1.ext, q1.fresh, ?_, ?_, ?_, fun t' => ?_, ?_, q1.lent⟩
  · intro b
    have := q1.mu b
    simp only [effH1, mkF] at this ⊢
    simpa [hat_snoc] using this
  · intro k b
    have := q1.new k b
    simp only [effH1, mkF] at this ⊢
    simpa [hat_snoc] using this
  · intro k k' b
    have := q1.apart k k' b
    simp only [effH1, mkF] at this ⊢
    simpa [hat_snoc] using this
  · simp only [mkF, look]
    by_cases h1 : t' = t
    · subst h1
      rw [if_pos rfl, hv]
      exact q2
    · rw [if_neg h1]
      exact q1.env t'
  · intro k
    have := q1.chunk k
    simp only [effH1, mkF] at this ⊢
    simpa [hat_snoc] using this
/-- A nil slice in a box's cell, as a row of one's own. -/
theorem weak_adopt_box {P : Program} {n m : Nat} {e : Env} {h : List Chunk} (hml : m ≤ h.length) (kb T : Nat) (cells : List PV) (j E sz : Nat) (hk : hatL h kb = .box T cells) (hj : cells[j]? = some (.d (.v (.slice none 0 0)))) {h' : List Chunk} (hh : h' = setC h kb (.box T (setAt cells j [.own h.length 0])) ++ [.row E sz 0 []]) : Weak P n m e h e h' := by
  intro X _ _ hXm a w hr
  subst hh
  obtain ⟨c, hc⟩ := hr
  obtain ⟨c', q1, q2⟩ := hc.new_row (k := h.length) (w' := w) (hatL_end h) (by omega) E sz [] (.slice none 0 0) [] (Below.refl _ _) .nil (fun b hb => by cases hb) ⟨rfl, fun j d x h => by simp at h⟩ (by simp) (by simp)
  have hlt : kb < h.length := hatL_lt (by rw [hk]; simp)
  have hjl : j < cells.length := (List.getElem?_eq_some_iff.1 hj).1
  have hsl : (setC h kb (.box T (setAt cells j [.own h.length 0]))).length = h.length := by
    have : ∀ (l : List Chunk) (k : Nat) (c : Chunk), k < l.length → (setC l k c).length = l.length := by
      intro l
      induction l with
      | nil => intro k c hk; simp at hk
      | cons a l ih =>
        intro k c hk
        cases k with
        | zero => rfl
        | succ k => simp only [setC, List.length_cons]; rw [ih k c (by simpa using hk)]
    exact this h kb _ hlt
  have hat : ∀ k, hatL (setC h kb (.box T (setAt cells j [.own h.length 0])) ++ [.row E sz 0 []]) k = if k = h.length then .row E sz 0 [] else if k = kb then .box T (setAt cells j [.own h.length 0]) else hatL h k := by
    intro k
    rw [hat_snoc, hsl, hatL_setC (by omega)]
  have hold : ∀ k, effH [(h.length, Chunk.row E sz 0 [])] (hatL h) k = if k = h.length then .row E sz 0 [] else hatL h k := fun k => rfl
  have hblk : ∀ k, c'.block k (hatL (setC h kb (.box T (setAt cells j [.own h.length 0])) ++ [.row E sz 0 []]) k) = c'.block k (effH [(h.length, Chunk.row E sz 0 [])] (hatL h) k) := by
    intro k
    rw [hat, hold]
    by_cases h1 : k = h.length
    · rw [if_pos h1, if_pos h1]
    · rw [if_neg h1, if_neg h1]
      by_cases h2 : k = kb
      · subst h2; rw [if_pos rfl, hk]; rfl
      · rw [if_neg h2]
  refine ⟨c', q1.size, q1.defers, q1.ext, q1.fresh, ?_, ?_, ?_, q1.env, ?_, q1.lent⟩
  · intro b
    have := q1.mu b
    simp only [mkF] at this ⊢
    simpa only [hblk] using this
  · intro k b
    have := q1.new k b
    simp only [mkF] at this ⊢
    rwa [hblk]
  · intro k k' b
    have := q1.apart k k' b
    simp only [mkF] at this ⊢
    rwa [hblk, hblk]
  · intro k
    have hck := q1.chunk k
    simp only [mkF] at hck ⊢
    rw [hat]
    rw [hold] at hck
    by_cases h1 : k = h.length
    · rw [if_pos h1] at hck ⊢; exact hck
    · rw [if_neg h1] at hck ⊢
      by_cases h2 : k = kb
      · subst h2
        rw [if_pos rfl]
        rw [hk] at hck
        have hck0 := hc.chunk k
        simp only [mkF] at hck0
        rw [hk] at hck0
        cases hck with
        | box _ _ b vs g1 g2 g3 g4 =>
          have hvj : vs[j]? = some (.slice none 0 0) := by
            have hjv : j < vs.length := by rw [← g3.1]; exact hjl
            obtain ⟨u, hu⟩ : ∃ u, vs[j]? = some u := ⟨_, List.getElem?_eq_getElem hjv⟩
            have := g3.2 j _ u hj hu
            cases this with
            | d _ _ h => cases h; exact hu
          have hset : setAt vs j [.slice none 0 0] = vs := by
            apply List.ext_getElem?
            intro i
            rw [setAt_get (by simp; rw [← g3.1]; exact hjl)]
            split
            · rename_i hi
              obtain rfl : i = j := by simp at hi; omega
              rw [hvj]
              simp
            · rfl
          have hr1 : RepPs c' w [.own h.length 0] [.slice none 0 0] := ⟨rfl, fun i d x hd hx => by
            cases i with
            | zero => simp at hd hx; subst hd; subst hx; exact q2
            | succ i => simp at hd⟩
          have hr2 := repPs_set (off := j) g3 hr1 (by simp; omega)
          rw [hset] at hr2
          exact .box T _ b vs g1 g2 hr2 (fun d hd => (mem_setAt hd).elim (g4 d) (fun hd => by simp at hd; subst hd; rfl))
      · rw [if_neg h2]; exact hck
mutual
/-- A slice of one's own, given away, as data. -/
def fz (k g : Nat) (d : D) : PV → PV
  | .own k' g' => if k' = k ∧ g' = g then .d d else .own k' g'
  | .clo f caps => .clo f (fzL k g d caps)
  | .agg l => .agg (fzL k g d l)
  | .tup l => .tup (fzL k g d l)
  | .d x => .d x
  | .any => .any
  | .ptr k' o => .ptr k' o
  | .rp k' g' sz i j => .rp k' g' sz i j
  | .osl k' g' sz a n => .osl k' g' sz a n
  | .mref k' => .mref k'
def fzL (k g : Nat) (d : D) : List PV → List PV
  | [] => []
  | p :: l => fz k g d p :: fzL k g d l
end
theorem fzL_map (k g : Nat) (d : D) : ∀ l, fzL k g d l = l.map (fz k g d)
  | [] => rfl
  | p :: l => by simp only [fzL, fzL_map k g d l, List.map_cons]
theorem fzL_d (k g : Nat) (d : D) : ∀ (l : List D), fzL k g d (l.map .d) = l.map .d
  | [] => rfl
  | x :: l => by simp only [List.map_cons, fzL, fz, fzL_d k g d l]
def fzR (k g : Nat) (d : D) : List (List PV) → List (List PV)
  | [] => []
  | r :: l => fzL k g d r :: fzR k g d l
theorem fzR_map (k g : Nat) (d : D) : ∀ l, fzR k g d l = l.map (·.map (fz k g d))
  | [] => rfl
  | p :: l => by simp only [fzR, fzR_map k g d l, fzL_map, List.map_cons]
theorem fzR_d (k g : Nat) (d : D) : ∀ (l : List (List D)), fzR k g d (dRows l) = dRows l
  | [] => rfl
  | x :: l => by
    have := fzR_d k g d l
    simp only [dRows] at this
    simp only [dRows, List.map_cons, fzR, fzL_d, this]
theorem fzR_set (k g : Nat) (d : D) (l : List (List PV)) (i : Nat) (r : List PV) : fzR k g d (l.set i r) = (fzR k g d l).set i (fzL k g d r) := by
  simp only [fzR_map, fzL_map, List.map_set]
def fzC (k g : Nat) (d : D) : Chunk → Chunk
  | .box T cells => .box T (fzL k g d cells)
  | .row E sz g' rows => .row E sz g' (fzR k g d rows)
  | c => c
def fzE (k g : Nat) (d : D) : Env → Env
  | [] => []
  | (t, p) :: l => (t, fz k g d p) :: fzE k g d l
/-- The chunks behind: that of number k is gone. -/
def fzH (k g : Nat) (d : D) : Nat → List Chunk → List Chunk
  | _, [] => []
  | j, c :: l => (if j = k then .gone else fzC k g d c) :: fzH k g d (j + 1) l
theorem look_fzE (k g : Nat) (d : D) : ∀ (e : Env) (t : Nat), look (fzE k g d e) t = fz k g d (look e t)
  | [], t => rfl
  | (t', p) :: l, t => by
    simp only [fzE, look]
    by_cases h : t = t'
    · rw [if_pos h, if_pos h]
    · rw [if_neg h, if_neg h]; exact look_fzE k g d l t
theorem hat_fzH (k g : Nat) (d : D) : ∀ (h : List Chunk) (j i : Nat), hatL (fzH k g d j h) i = if i + j = k then (if i < h.length then .gone else .none) else fzC k g d (hatL h i)
  | [], j, i => by simp [fzH, hatL, fzC]
  | c :: l, j, 0 => by
    simp only [fzH, hatL, Nat.zero_add, List.length_cons, Nat.zero_lt_succ, if_true]
  | c :: l, j, i + 1 => by
    simp only [fzH, hatL]
    rw [hat_fzH k g d l (j + 1) i]
    have e1 : (i + (j + 1) = k) = (i + 1 + j = k) := by apply propext; omega
    have e2 : (i < l.length) = (i + 1 < (c :: l).length) := by apply propext; simp
    simp only [e1, e2]
/-- A row of data is given away: what held it holds data. -/
theorem weak_freeze {P : Program} {n m : Nat} {e : Env} {h : List Chunk} (k g E sz : Nat) (rows : List (List D)) (hk : hatL h k = .row E sz g (dRows rows)) : Weak P n m e h (fzE k g (.sl sz rows) e) (fzH k g (.sl sz rows) 0 h) := by
  intro X _ _ hXm a w hr
  obtain ⟨c, hc⟩ := hr
  have hf := hc.freeze [k]
  generalize hcc : ({ c with M := lessM c (mkF e h).heap [k] } : Cx) = cc at hf
  have hbl : cc.bl = c.bl := by rw [← hcc]
  have hov : cc.ov = c.ov := by rw [← hcc]
  have hMM : cc.M = lessM c (hatL h) [k] := by rw [← hcc]; rfl
  have hlt : k < h.length := hatL_lt (by rw [hk]; simp)
  have key : ∀ (p : PV) (v : Value), RepP cc w p v → RepP cc w (fz k g (.sl sz rows) p) v := by
    intro p v hp
    induction hp with
    | own k' g' v h1 h2 =>
      simp only [fz]
      by_cases e : k' = k ∧ g' = g
      · rw [if_pos e]
        obtain ⟨rfl, rfl⟩ := e
        refine .d _ _ ?_
        rw [hMM]
        have hv : viewF (mkF e h).heap 1 (.own k' g') = some (.sl sz rows) := by
          simp only [viewF, mkF, hk, if_true, viewR_d, Option.map_some]
        exact viewF_ok hc (T := [k']) 1 hv (fun k2 hk2 => by simpa [tchF, mkF, hk, tchR_d] using hk2) (.own k' g' v (by rw [← hov]; exact h1) h2)
      · rw [if_neg e]; exact .own k' g' v h1 h2
    | clo f caps vs hl hrep ih =>
      simp only [fz, fzL_map]
      refine .clo f _ vs (by rw [List.length_map]; exact hl) fun j d x hj hx => ?_
      rw [List.getElem?_map, Option.map_eq_some_iff] at hj
      obtain ⟨y, hy, rfl⟩ := hj
      exact ih j y x hy hx
    | agg caps vs hl h1 hrep ih =>
      simp only [fz, fzL_map]
      refine .agg _ vs (by rw [List.length_map]; exact hl) (fun d hd => ?_) fun j d x hj hx => ?_
      · obtain ⟨y, hy, rfl⟩ := List.mem_map.1 hd
        have := h1 y hy
        cases y <;> simp only [fz] <;> first | exact this | (split <;> first | rfl | exact this)
      · rw [List.getElem?_map, Option.map_eq_some_iff] at hj
        obtain ⟨y, hy, rfl⟩ := hj
        exact ih j y x hy hx
    | tup caps vs hl hrep ih =>
      simp only [fz, fzL_map]
      refine .tup _ vs (by rw [List.length_map]; exact hl) fun j d x hj hx => ?_
      rw [List.getElem?_map, Option.map_eq_some_iff] at hj
      obtain ⟨y, hy, rfl⟩ := hj
      exact ih j y x hy hx
    | d x v h1 => exact .d x v h1
    | any v => exact .any v
    | ptr k' off b h1 => exact .ptr k' off b h1
    | rp k' g' sz' i j b nn cap h1 => exact .rp k' g' sz' i j b nn cap h1
    | osl k' g' sz' a' nn b o N cap h1 h2 h3 h4 => exact .osl k' g' sz' a' nn b o N cap h1 h2 h3 h4
    | mref k' b h1 => exact .mref k' b h1
  have one : ∀ (y : PV), y.one = true → (fz k g (.sl sz rows) y).one = true := by
    intro y hy
    cases y <;> simp only [fz] <;> first | exact hy | (split <;> first | rfl | exact hy)
  have keys : ∀ (l : List PV) (vs : List Value), RepPs cc w l vs → RepPs cc w (l.map (fz k g (.sl sz rows))) vs := by
    intro l vs hl
    refine ⟨by rw [List.length_map]; exact hl.1, fun j d x hj hx => ?_⟩
    rw [List.getElem?_map, Option.map_eq_some_iff] at hj
    obtain ⟨y, hy, rfl⟩ := hj
    exact key _ _ (hl.2 j y x hy hx)
  have hat : ∀ i, hatL (fzH k g (.sl sz rows) 0 h) i = fzC k g (.sl sz rows) (effH ([k].map fun k => (k, .gone)) (hatL h) i) := by
    intro i
    rw [hat_fzH, effH_gone, Nat.add_zero]
    by_cases e : i = k
    · subst e
      rw [if_pos rfl, if_pos hlt, if_pos (by simp)]
      rfl
    · rw [if_neg e, if_neg (by simpa using e)]
  have blk : ∀ i ch, cc.block i (fzC k g (.sl sz rows) ch) = cc.block i ch := fun i ch => by cases ch <;> rfl
  refine ⟨cc, hf.size, hf.defers, hf.ext, hf.fresh, fun b => ?_, fun i b hb => ?_, fun i j b hb hb' => ?_, fun t => ?_, fun i => ?_, hf.lent⟩
  · rw [hf.mu b]
    simp only [mkF, hat, blk]
  · simp only [mkF, hat, blk] at hb
    exact hf.new i b hb
  · simp only [mkF, hat, blk] at hb hb'
    exact hf.apart i j b hb hb'
  · show RepP cc w (look (fzE k g (.sl sz rows) e) t) _
    rw [look_fzE]
    exact key _ _ (hf.env t)
  · have hck := hf.chunk i
    simp only [mkF, hat] at hck ⊢
    generalize effH ([k].map fun k => (k, .gone)) (hatL h) i = ch at hck
    cases hck with
    | none h1 h2 => exact .none h1 h2
    | gone => exact .gone
    | mp ents b h1 h2 => exact .mp ents b h1 h2
    | box T cells b vs h1 h2 h3 h4 =>
      refine .box T _ b vs h1 h2 (by rw [fzL_map]; exact keys _ _ h3) (fun d hd => ?_)
      rw [fzL_map] at hd
      obtain ⟨y, hy, rfl⟩ := List.mem_map.1 hd
      exact one y (h4 y hy)
    | row E' sz' g' rows' v xs h1 h2 h3 h4 h5 h6 =>
      refine .row E' sz' g' _ v xs h1 (by rw [fzR_map, List.length_map]; exact h2) (by rw [fzR_map, ← List.map_flatten]; exact keys _ _ h3) (fun r hr => ?_) (fun r hr d hd => ?_) h6
      · rw [fzR_map] at hr
        obtain ⟨y, hy, rfl⟩ := List.mem_map.1 hr
        rw [List.length_map]; exact h4 y hy
      · rw [fzR_map] at hr
        obtain ⟨y, hy, rfl⟩ := List.mem_map.1 hr
        obtain ⟨z, hz, rfl⟩ := List.mem_map.1 hd
        exact one z (h5 y hy z hz)
/-- The same state, with other words for it. -/
theorem weak_eq {P : Program} {n m : Nat} {e e' : Env} {h h' : List Chunk} (he : e = e') (hh : h = h') : Weak P n m e h e' h' := by
  subst he; subst hh; exact Weak.refl _ _ _ _ _
end Go.Proofs.Ytflbpkgnadjokaa
namespace Go.Proofs.Ytflbpkgnadjokaa
open Go Go.RowKit Go.Proofs
set_option maxRecDepth 100000
def msk (n : Int) : Int := 2 ^ (16 - n).toNat - 1
theorem msk_nat (n : Int) : msk n = ((2 ^ (16 - n).toNat - 1 : Nat) : Int) := by
  have := Nat.one_le_two_pow (n := (16 - n).toNat)
  have h4 : ((2 ^ (16 - n).toNat : Nat) : Int) = (2 : Int) ^ (16 - n).toNat := by simp
  unfold msk; omega
theorem pow_bd (n : Int) (h0 : 0 ≤ n) : (2 : Int) ^ (16 - n).toNat ≤ 65536 ∧ 1 ≤ (2 : Int) ^ (16 - n).toNat := by
  have h1 : (16 - n).toNat ≤ 16 := by omega
  have h2 := Nat.pow_le_pow_right (n := 2) (by omega) h1
  have h3 := Nat.one_le_two_pow (n := (16 - n).toNat)
  have h4 : ((2 ^ (16 - n).toNat : Nat) : Int) = (2 : Int) ^ (16 - n).toNat := by simp
  omega
theorem msk_bd (n : Int) (h0 : 0 ≤ n) : 0 ≤ msk n ∧ msk n ≤ 65535 := by
  have := pow_bd n h0
  unfold msk; omega
theorem mask_any (n : Int) (w : World) (h0 : 0 ≤ n) (h1 : n ≤ 16) :
    Calls Try.prog 42 #[.int .i64 n] w fun e w' => e = .returned (.int .i64 (msk n)) ∧ w = w' := by
  have hp := pow_bd n h0
  go_enter Try.func42, Try.ntmps42
  go_wp2
  go_ret
  exact ⟨rfl, rfl⟩
def chk (a l : Int) : Int := if l < 0 ∨ l > 16 ∨ a < 0 ∨ a > 65535 then 3 else if a % 2 ^ (16 - l).toNat = 0 then 0 else 1
theorem and_msk (a l : Int) (h0 : 0 ≤ a) (h1 : a ≤ 65535) (h2 : 0 ≤ l) : bits .and .i64 a (msk l) = a % 2 ^ (16 - l).toNat := by
  obtain ⟨n, rfl⟩ := Int.eq_ofNat_of_zero_le h0
  rw [msk_nat, i64_and_nat _ _ (by omega) (by have := msk_bd l h2; rw [msk_nat] at this; omega), Nat.and_two_pow_sub_one_eq_mod]
  simp
theorem chk_3 {a l : Int} (h : l < 0 ∨ l > 16 ∨ a < 0 ∨ a > 65535) : chk a l = 3 := if_pos h
theorem chk_in {a l : Int} (h1 : 0 ≤ l) (h2 : l ≤ 16) (h3 : 0 ≤ a) (h4 : a ≤ 65535) : chk a l = if a % 2 ^ (16 - l).toNat = 0 then 0 else 1 := if_neg (by omega)
set_option maxHeartbeats 400000 in
theorem check_any (a l : Int) (w : World) :
    Calls Try.prog 34 #[.agg #[.int .i64 a, .int .i64 l]] w fun e w' => e = .returned (.int .i64 (chk a l)) ∧ Ext w w' := by
  by_cases hl : l < 0 ∨ l > 16 ∨ a < 0 ∨ a > 65535
  · have hc := Lib.hid (chk_3 hl)
    by_cases h1 : l < 0
    · clear hl
      go_enter Try.func34, Try.ntmps34
      go_wp2_with fail
      go_ret
      exact ⟨ret_int hc.out.symm, (Below.refl _ _).alloc (Nat.le_refl _) _⟩
    by_cases h2 : l > 16
    · clear hl
      go_enter Try.func34, Try.ntmps34
      go_wp2_with fail
      go_ret
      exact ⟨ret_int hc.out.symm, (Below.refl _ _).alloc (Nat.le_refl _) _⟩
    by_cases h3 : a < 0
    · clear hl
      go_enter Try.func34, Try.ntmps34
      go_wp2_with fail
      go_ret
      exact ⟨ret_int hc.out.symm, (Below.refl _ _).alloc (Nat.le_refl _) _⟩
    have h4 : a > 65535 := by omega
    clear hl
    go_enter Try.func34, Try.ntmps34
    go_wp2_with fail
    go_ret
    exact ⟨ret_int hc.out.symm, (Below.refl _ _).alloc (Nat.le_refl _) _⟩
  · have hm := msk_bd l (by omega)
    obtain ⟨g1, g2, g3, g4⟩ : 0 ≤ l ∧ l ≤ 16 ∧ 0 ≤ a ∧ a ≤ 65535 := by omega
    clear hl
    have hc := Lib.hid (chk_in g1 g2 g3 g4)
    have ha := Lib.hid (and_msk a l g3 g4 g1)
    go_enter Try.func34, Try.ntmps34
    go_wp2_with fail
    go_quiet ((go_at_call 42; exact Calls.quiet_of_same ((mask_any _ _ (by omega) (by omega)).mono (fun _ _ h => ⟨h.1, h.2.symm⟩))))
    go_wp2_with fail
    · go_ret
      rename_i h
      rw [ha.out] at h
      exact ⟨ret_int (by rw [hc.out, if_neg (by simpa using h)]), below_drewN ((Below.refl _ _).alloc (Nat.le_refl _) _) _⟩
    · go_ret
      rename_i h
      rw [ha.out] at h
      exact ⟨ret_int (by rw [hc.out, if_pos (by simpa using h)]), below_drewN ((Below.refl _ _).alloc (Nat.le_refl _) _) _⟩
structure Pfx where
  at_ : Int
  len : Int
  deriving DecidableEq
def Pfx.R (cs : List Value) (p : Pfx) : Prop := cs = [.int .i64 p.at_, .int .i64 p.len]
def Pfx.chk (p : Pfx) : Int := Go.Proofs.Ytflbpkgnadjokaa.chk p.at_ p.len
set_option maxHeartbeats 400000 in
theorem right_any {A : Area} {w : World} {ao : Option Addr} {cap : Nat} {l : List Pfx} (h : Sl A w 2 Pfx.R ao cap l) :
    Calls Try.prog 41 #[.slice ao l.length cap] w fun e w' => e = .returned (.bool (l.all fun p => p.chk == 0)) ∧ Ext w w' := by
  have hcl := h.cap_le
  have hcm := h.cap_max
  go_enter Try.func41, Try.ntmps41
  go_wp2_with fail
  go_loopw [7] (fun i wr => ∃ k : Nat, k ≤ l.length ∧ i = .int .i64 k ∧ (∀ p ∈ l.take k, p.chk = 0) ∧ Bel w.heap.size w wr) (fun i _ => l.length - (intOf i).toNat)
  case atStart => exact ⟨0, Nat.zero_le _, rfl, by simp, Bel.refl _⟩
  case round =>
    obtain ⟨k, hk, rfl, hall, hb⟩ := hrel
    by_cases hlt : k < l.length
    · obtain ⟨b, off, cs, hao, -, -, hR, hc⟩ := h.elem k hlt
      generalize hp : l[k] = p at hR
      unfold Pfx.R at hR
      subst hR
      have hc0 := hc 0 (by simp)
      have hc1 := hc 1 (by simp)
      simp at hc0 hc1
      have hbl := lt_of_cell hc0
      have hc0 := hb.cell hbl hc0
      have hc1 := hb.cell hbl hc1
      replace hp := Lib.hid hp
      replace hall := Lib.hid hall
      clear hc
      subst hao
      go_wp2_with fail
      have hle := hb.le
      refine (check_any _ _ _).mono ?_
      rintro e w1 ⟨rfl, hw1⟩
      have hb3 : Bel w.heap.size w w1 := by (repeat (first | with_reducible assumption | with_reducible exact Bel.refl _ | with_reducible refine Bel.alloc ?_ _ | with_reducible refine Bel.drewN ?_ _ | with_reducible refine Bel.drew ?_ | (with_reducible refine Bel.setCell0 ?_ ?_ _; rotate_left; (first | omega | (simp; done) | (simp; omega))) | (with_reducible refine Bel.setCell ?_ (p := _) ?_ _; rotate_left; (first | (simp; done) | omega | (simp; omega))) | refine Bel.call ?_ (by assumption) | (refine EX.bel ?_ (by assumption) ?_; rotate_left; (first | omega | (simp; omega)))))
      replace hb3 := Lib.hid hb3
      clear hb
      by_cases hz : Go.Proofs.Ytflbpkgnadjokaa.chk p.at_ p.len = 0
      · have hz2 : (Go.Proofs.Ytflbpkgnadjokaa.chk p.at_ p.len != 0) = false := by simp [hz]
        replace hz := Lib.hid hz
        go_wp2_with fail
        go_roundw
        case rel => exact ⟨k + 1, by omega, by go_num, by
            intro q hq
            rw [List.take_succ_eq_append_getElem hlt] at hq
            rcases List.mem_append.1 hq with hq | hq
            · exact hall.out q hq
            · rw [List.mem_singleton.1 hq, hp.out]; exact hz.out, hb3.out⟩
        case measure => simp [intOf]; omega
      · have hz2 : (Go.Proofs.Ytflbpkgnadjokaa.chk p.at_ p.len != 0) = true := by simp [hz]
        go_wp2_with fail
        go_ret
        refine ⟨?_, hb3.out.bel⟩
        have : (l.all fun p => p.chk == 0) = false := by
          rw [List.all_eq_false]
          exact ⟨l[k], List.getElem_mem hlt, by rw [hp.out]; simpa [Pfx.chk] using hz⟩
        rw [this]; rfl
    · obtain rfl : k = l.length := by omega
      go_wp2_with fail
      go_ret
      refine ⟨?_, hb.bel⟩
      have : (l.all fun p => p.chk == 0) = true := by
        rw [List.all_eq_true]
        intro p hp
        rw [List.take_length] at hall
        simpa using hall p hp
      rw [this]; rfl
end Go.Proofs.Ytflbpkgnadjokaa
namespace Go.Proofs.Ytflbpkgnadjokaa
open Go Go.RowKit
theorem take_snoc {α : Type} {l : List α} {k : Nat} {x : α} (h : l[k]? = some x) : l.take (k + 1) = l.take k ++ [x] := by
  rw [List.take_add_one, h]; rfl
structure Lse where
  at_ : Pfx
  kind : Int
  owner : Int
  till : Int
  deriving DecidableEq
structure Rul where
  min : Int
  max : Int
  usual : Int
  cool : Int
  deriving DecidableEq
structure Pol where
  id : Int
  up : Int
  root : Pfx
  rule : Rul
  leases : List Lse
  deriving DecidableEq
structure Bok where
  tick : Int
  pools : List Pol
  deriving DecidableEq
def encI (n : Int) : D := .v (.int .i64 n)
def encP (p : Pfx) : List D := [.v (.int .i64 p.at_), .v (.int .i64 p.len)]
def encR (r : Rul) : List D := [.v (.int .i64 r.min), .v (.int .i64 r.max), .v (.int .i64 r.usual), .v (.int .i64 r.cool)]
def encL (l : Lse) : List D := [.v (.int .i64 l.at_.at_), .v (.int .i64 l.at_.len), .v (.int .i64 l.kind), .v (.int .i64 l.owner), .v (.int .i64 l.till)]
def encPol (p : Pol) : List D := [.v (.int .i64 p.id), .v (.int .i64 p.up), .v (.int .i64 p.root.at_), .v (.int .i64 p.root.len), .v (.int .i64 p.rule.min), .v (.int .i64 p.rule.max), .v (.int .i64 p.rule.usual), .v (.int .i64 p.rule.cool), .sl 5 (p.leases.map encL)]
def encB (b : Bok) : List D := [.v (.int .i64 b.tick), .sl 9 (b.pools.map encPol)]
def encS (root : Pfx) (us : List Pfx) : List D := [.v (.int .i64 root.at_), .v (.int .i64 root.len), .sl 2 (us.map encP)]
end Go.Proofs.Ytflbpkgnadjokaa
namespace Go.Proofs.Ytflbpkgnadjokaa
open Go Go.RowKit
def dval0 : D → Value
  | .v x => x
  | _ => undef
def dval1 : D → Value
  | .v x => x
  | .agg l => .agg (l.map dval0).toArray
  | _ => undef
def dval : D → Value
  | .v x => x
  | .agg l => .agg (l.map dval0).toArray
  | .tup l => .tuple (l.map dval1).toArray
  | _ => undef
theorem ext_list {vs : List Value} {ds : List D} {f : D → Value} (hl : ds.length = vs.length) (h : ∀ (j : Nat) (d : D) (x : Value), ds[j]? = some d → vs[j]? = some x → x = f d) : vs = ds.map f := by
  apply List.ext_getElem?
  intro j
  rw [List.getElem?_map]
  cases hd : ds[j]? with
  | none =>
    have : ds.length ≤ j := by simpa using hd
    rw [List.getElem?_eq_none (by omega)]; rfl
  | some d =>
    have hlt : j < vs.length := by rw [← hl]; exact (List.getElem?_eq_some_iff.1 hd).1
    rw [List.getElem?_eq_getElem hlt, h j d _ hd (List.getElem?_eq_getElem hlt)]; rfl
theorem isV_val {M : Nat → Prop} {w : World} {d : D} {v : Value} (h : RepD M w d v) (hf : d.isV = true) : v = dval0 d := by
  cases d <;> simp [D.isV] at hf
  cases h
  rfl
theorem flat_val {M : Nat → Prop} {w : World} {d : D} {v : Value} (h : RepD M w d v) (hf : d.flat = true) : v = dval d := by
  cases h with
  | v => rfl
  | agg cells vs hl h1 hrep =>
    simp only [D.flat, List.all_eq_true] at hf
    rw [ext_list (f := dval0) hl fun j d x hj hx => isV_val (hrep j d x hj hx) (hf d (List.mem_of_getElem? hj))]
    rfl
  | tup ds vs hl hrep =>
    simp only [D.flat, List.all_eq_true] at hf
    rw [ext_list (f := dval1) hl fun j d x hj hx => ?_]
    · rfl
    · have h0 := hrep j d x hj hx
      have h1 := hf d (List.mem_of_getElem? hj)
      cases h0 with
      | v => rfl
      | agg cells us hl' h1' hrep' =>
        simp only [List.all_eq_true] at h1
        rw [ext_list (f := dval0) hl' fun j d x hj hx => isV_val (hrep' j d x hj hx) (h1 d (List.mem_of_getElem? hj))]
        rfl
      | _ => simp at h1
  | _ => simp [D.flat] at hf
def D.aggOK : D → Bool
  | .agg l => l.all D.one
  | .tup l => l.all fun d => match d with | .agg l => l.all D.one | _ => true
  | _ => true
theorem map_rep {M : Nat → Prop} {w : World} (ds : List D) (hf : ∀ d ∈ ds, d.isV = true) : ∀ (j : Nat) (d : D) (x : Value), ds[j]? = some d → (ds.map dval0)[j]? = some x → RepD M w d x := by
  intro j d x hj hx
  rw [List.getElem?_map, hj] at hx
  cases hx
  have := hf d (List.mem_of_getElem? hj)
  cases d <;> simp [D.isV] at this
  exact .v _
theorem flat_mk {M : Nat → Prop} {w : World} {d : D} (hf : d.flat = true) (h1 : d.aggOK = true) : RepD M w d (dval d) := by
  cases d with
  | v x => exact .v x
  | agg l =>
    simp only [D.flat, List.all_eq_true] at hf
    simp only [D.aggOK, List.all_eq_true] at h1
    exact .agg l _ (by simp) h1 (map_rep l hf)
  | tup l =>
    simp only [D.flat, List.all_eq_true] at hf
    simp only [D.aggOK, List.all_eq_true] at h1
    refine .tup l _ (by simp) fun j d x hj hx => ?_
    rw [List.getElem?_map, hj] at hx
    cases hx
    have h2 := hf d (List.mem_of_getElem? hj)
    have h3 := h1 d (List.mem_of_getElem? hj)
    cases d with
    | v x => exact .v x
    | agg l' =>
      simp only [List.all_eq_true] at h2 h3
      exact .agg l' _ (by simp) h3 (map_rep l' h2)
    | _ => simp at h2
  | _ => simp [D.flat] at hf
theorem pspec_flat {P : Program} {f : Nat} {ds : List D} {r : D} (hn : FnOK P f) (hf : ∀ d ∈ ds, d.flat = true) (hr : r.flat = true) (hr1 : r.aggOK = true) (h : ∀ w, Calls P f (ds.map dval).toArray w fun e w' => e = .returned (dval r) ∧ Ext w w') : PSpec P f ds r := by
  refine ⟨hn, fun M w vs _ hds => ?_⟩
  rw [ext_list (f := dval) hds.1 fun j d x hj hx => flat_val (hds.2 j d x hj hx) (hf d (List.mem_of_getElem? hj))]
  exact (h w).mono fun e w' ⟨he, hx⟩ => ⟨dval r, he, flat_mk hr hr1, hx⟩
theorem repDs_cons {M : Nat → Prop} {w : World} {d : D} {ds : List D} {vs : List Value} (h : RepDs M w (d :: ds) vs) : ∃ v us, vs = v :: us ∧ RepD M w d v ∧ RepDs M w ds us := by
  cases vs with
  | nil => have := h.1; simp at this
  | cons v us => exact ⟨v, us, rfl, h.2 0 d v rfl rfl, ⟨by simpa using h.1, fun j d x hj hx => h.2 (j + 1) d x (by simpa using hj) (by simpa using hx)⟩⟩
theorem repDs_nil {M : Nat → Prop} {w : World} {vs : List Value} (h : RepDs M w [] vs) : vs = [] := by
  cases vs with
  | nil => rfl
  | cons v us => have := h.1; simp at this
theorem repD_agg {M : Nat → Prop} {w : World} {ds : List D} {v : Value} (h : RepD M w (.agg ds) v) : ∃ vs : List Value, v = .agg vs.toArray ∧ RepDs M w ds vs := by
  cases h with
  | agg _ vs hl h1 hrep => exact ⟨vs, rfl, hl, hrep⟩
theorem repD_v {M : Nat → Prop} {w : World} {x v : Value} (h : RepD M w (.v x) v) : v = x := by cases h; rfl
theorem repD_P {M : Nat → Prop} {w : World} {p : Pfx} {v : Value} (h : RepD M w (.agg (encP p)) v) : v = .agg #[.int .i64 p.at_, .int .i64 p.len] := by
  have := flat_val h rfl
  rw [this]; rfl
theorem repD_sl {M : Nat → Prop} {w : World} {us : List Pfx} {v : Value} (h : RepD M w (.sl 2 (us.map encP)) v) : ∃ ao cap, v = .slice ao us.length cap ∧ Sl (fun b => ¬ M b) w 2 Pfx.R ao cap us := by
  generalize hr : us.map encP = rows at h
  have hl : us.length = rows.length := by rw [← hr]; simp
  cases h with
  | nil _ ao cap hm =>
    have : us = [] := List.eq_nil_of_length_eq_zero (by simpa using hl)
    subst this
    exact ⟨ao, cap, rfl, ⟨Nat.zero_le _, hm, fun i hi => absurd hi (Nat.not_lt_zero _)⟩⟩
  | sl _ _ b off cap f hM hb hc hm hr' h1 hcell hrep =>
    refine ⟨_, cap, by rw [hl], ⟨by omega, hm, fun i hi => ⟨b, off, [.int .i64 us[i].at_, .int .i64 us[i].len], rfl, hM, rfl, rfl, fun j hj => ?_⟩⟩⟩
    have hrow : rows[i]? = some (encP us[i]) := by rw [← hr, List.getElem?_map, List.getElem?_eq_getElem hi]; rfl
    have hcj := hcell i j (by omega) hj
    rw [hcj]
    match j, hj with
    | 0, _ => rw [repD_v (hrep i 0 _ _ hrow rfl)]; rfl
    | 1, _ => rw [repD_v (hrep i 1 _ _ hrow rfl)]; rfl
theorem repD_S {M : Nat → Prop} {w : World} {root : Pfx} {us : List Pfx} {v : Value} (h : RepD M w (.agg (encS root us)) v) : ∃ uo cap, v = .agg #[.int .i64 root.at_, .int .i64 root.len, .slice uo us.length cap] ∧ Sl (fun b => ¬ M b) w 2 Pfx.R uo cap us := by
  obtain ⟨vs, rfl, hvs⟩ := repD_agg h
  obtain ⟨a, vs, rfl, ha, hvs⟩ := repDs_cons hvs
  obtain ⟨b, vs, rfl, hb, hvs⟩ := repDs_cons hvs
  obtain ⟨c, vs, rfl, hc, hvs⟩ := repDs_cons hvs
  rw [repDs_nil hvs, repD_v ha, repD_v hb]
  obtain ⟨ao, cap, rfl, hs⟩ := repD_sl hc
  exact ⟨ao, cap, rfl, hs⟩
theorem rep_sl {M : Nat → Prop} {A : Area} {w : World} {us : List Pfx} {ao : Option Addr} {cap : Nat} (h : Sl A w 2 Pfx.R ao cap us) (hA : ∀ b, A b → ¬ M b) : RepD M w (.sl 2 (us.map encP)) (.slice ao us.length cap) := by
  cases us with
  | nil => exact .nil 2 ao cap h.cap_max
  | cons u us =>
    obtain ⟨b, off, cs, rfl, hAb, hl, hR, hcs⟩ := h.elem 0 (by simp)
    have hcell : ∀ i (hi : i < (u :: us).length) j, j < 2 → w.cell? ⟨b, off + i * 2 + j, none⟩ = some (([.int .i64 (u :: us)[i].at_, .int .i64 (u :: us)[i].len] : List Value).getD j undef) := by
      intro i hi j hj
      obtain ⟨b', off', cs', e, -, hl', hR', hcs'⟩ := h.elem i hi
      cases e
      have := hcs' j (by omega)
      unfold Pfx.R at hR'
      subst hR'
      rw [this]
      match j, hj with
      | 0, _ => rfl
      | 1, _ => rfl
    have hlen : ((u :: us).map encP).length = (u :: us).length := by simp
    rw [← hlen]
    refine .sl 2 ((u :: us).map encP) b off cap (fun i j => (([.int .i64 ((u :: us).getD i u).at_, .int .i64 ((u :: us).getD i u).len] : List Value).getD j undef)) (hA b hAb) (lt_of_cell (hcell 0 (by simp) 0 (by omega))) (by rw [hlen]; exact h.cap_le) h.cap_max (fun r hr => ?_) (fun r hr => ?_) (fun i j hi hj => ?_) (fun i j row d hi hj => ?_)
    · obtain ⟨x, -, rfl⟩ := List.mem_map.1 hr; rfl
    · obtain ⟨x, -, rfl⟩ := List.mem_map.1 hr
      intro d hd
      simp [encP] at hd
      rcases hd with rfl | rfl <;> rfl
    · have hi' : i < (u :: us).length := by simpa using hi
      rw [hcell i hi' j hj]
      simp only [List.getD_eq_getElem?_getD, List.getElem?_eq_getElem hi', Option.getD_some]
    · rw [List.getElem?_map] at hi
      simp only [Option.map_eq_some_iff] at hi
      obtain ⟨x, hx, rfl⟩ := hi
      simp only [List.getD_eq_getElem?_getD, hx, Option.getD_some]
      match j with
      | 0 => cases hj; exact .v _
      | 1 => cases hj; exact .v _
      | j + 2 => simp [encP] at hj
theorem rep_S {M : Nat → Prop} {A : Area} {w : World} {root : Pfx} {us : List Pfx} {ao : Option Addr} {cap : Nat} (h : Sl A w 2 Pfx.R ao cap us) (hA : ∀ b, A b → ¬ M b) : RepD M w (.agg (encS root us)) (.agg #[.int .i64 root.at_, .int .i64 root.len, .slice ao us.length cap]) := by
  have hs := rep_sl (M := M) h hA
  refine .agg _ [.int .i64 root.at_, .int .i64 root.len, .slice ao us.length cap] rfl (fun d hd => ?_) (fun j d x hj hx => ?_)
  · simp [encS] at hd
    rcases hd with rfl | rfl | rfl <;> rfl
  · match j with
    | 0 => cases hj; cases hx; exact .v _
    | 1 => cases hj; cases hx; exact .v _
    | 2 => cases hj; cases hx; exact hs
    | j + 3 => simp [encS] at hj
end Go.Proofs.Ytflbpkgnadjokaa
namespace Go.Proofs.Ytflbpkgnadjokaa
open Go Go.RowKit Go.Proofs
set_option maxRecDepth 100000
def within (n lo hi : Int) : Bool := decide (lo ≤ n) && decide (n ≤ hi)
theorem within_any (n lo hi : Int) (w : World) :
    Calls Try.prog 47 #[.int .i64 n, .int .i64 lo, .int .i64 hi] w fun e w' => e = .returned (.bool (within n lo hi)) ∧ w = w' := by
  by_cases h1 : lo ≤ n
  · by_cases h2 : n ≤ hi
    · have hr : within n lo hi = true := by simp [within, h1, h2]
      replace hr := Lib.hid hr
      go_enter Try.func47, Try.ntmps47
      go_wp2_with fail
      go_ret
      first | exact ⟨ret_bool hr.out.symm, rfl⟩ | exact ⟨rfl, rfl⟩
    · have hr : within n lo hi = false := by simp [within, h2]
      replace hr := Lib.hid hr
      go_enter Try.func47, Try.ntmps47
      go_wp2_with fail
      go_ret
      first | exact ⟨ret_bool hr.out.symm, rfl⟩ | exact ⟨rfl, rfl⟩
  · have hr : within n lo hi = false := by simp [within, h1]
    replace hr := Lib.hid hr
    go_enter Try.func47, Try.ntmps47
    go_wp2_with fail
    go_ret
    first | exact ⟨ret_bool hr.out.symm, rfl⟩ | exact ⟨rfl, rfl⟩
end Go.Proofs.Ytflbpkgnadjokaa
namespace Go.Proofs.Ytflbpkgnadjokaa
open Go Go.RowKit Go.Proofs
set_option maxRecDepth 100000
def szI (n : Int) : Int := 2 ^ (16 - n).toNat
theorem szI_bd {n : Int} (h0 : 0 ≤ n) : 1 ≤ szI n ∧ szI n ≤ 65536 := by have := pow_bd n h0; unfold szI; omega
theorem sizeOf_any (n : Int) (w : World) (h0 : 0 ≤ n) (h1 : n ≤ 16) :
    Calls Try.prog 29 #[.int .i64 n] w fun e w' => e = .returned (.int .i64 (szI n)) ∧ w = w' := by
  have hp := pow_bd n h0
  go_enter Try.func29, Try.ntmps29
  go_wp2
  go_ret
  exact ⟨rfl, rfl⟩
set_option maxHeartbeats 400000 in
theorem checkPrefix_any (a l : Int) (w : World) :
    Calls Try.prog 46 #[.agg #[.int .i64 a, .int .i64 l]] w fun e w' => e = .returned (.int .i64 (chk a l)) ∧ Ext w w' := by
  by_cases hl : 0 ≤ l ∧ l ≤ 16
  · have e1 : within l 0 16 = true := by simp [within, hl]
    by_cases ha : 0 ≤ a ∧ a ≤ 65535
    · have e2 : within a 0 65535 = true := by simp [within, ha]
      have hm := pow_bd l hl.1
      obtain ⟨⟨g1, g2⟩, g3, g4⟩ := And.intro hl ha
      clear hl ha
      obtain ⟨z1, z2⟩ := szI_bd g1
      have z3 : ¬ szI l = 0 := by omega
      have hc := Lib.hid (chk_in g1 g2 g3 g4)
      go_enter Try.func46, Try.ntmps46
      go_wp2_with (first | (go_at_call 47; refine (within_any _ _ _ _).mono ?_; rintro e w' ⟨rfl, rfl⟩))
      refine region_ext (by kernel_rfl) (by kernel_rfl) ?_
      repeat (first | ((first | refine skip_t rfl rfl rfl (by with_reducible rfl) ?_ | refine skip_f rfl rfl rfl (by with_reducible rfl) ?_ | refine skip_u rfl rfl rfl (by with_reducible rfl) ?_); simp only [Act.put, List.setIfInBounds_toArray, List.set_cons_zero, List.set_cons_succ]) | (apply quiet_take; (first | exact want_0 rfl | exact want_b rfl rfl rfl (by with_reducible rfl)); intro wq hwq R hR; (have hcc := (bcell hwq).1; (try simp only [World.size_alloc, World.size_setCell, World.size_drew, World.heap_drewN] at hcc); go_simp; first | exact hR | ((go_at_call 29; exact callq_same hwq (sizeOf_any _ _ g1 g2) hR))); simp only [Act.put, List.setIfInBounds_toArray, List.set_cons_zero, List.set_cons_succ]))
      refine wpQuiet_nil ?_
      intro w1 hw1
      obtain ⟨hcw1, hfw1⟩ := bcell hw1
      have hzw1 := bsize hw1
      (try simp only [World.size_alloc, World.size_setCell, World.size_drew, World.heap_drewN] at hcw1 hfw1 hzw1)
      go_wp2_with fail
      · go_ret
        rename_i h
        refine ⟨ret_int ?_, ?_⟩
        · rw [hc.out, if_neg (by rw [Int.tmod_eq_emod_of_nonneg g3] at h; simpa [szI] using h)]
        · refine Bel.bel (B := _) ?_
          (repeat (first | with_reducible assumption | with_reducible exact Bel.refl _ | with_reducible refine Bel.alloc ?_ _ | with_reducible refine Bel.drewN ?_ _ | with_reducible refine Bel.drew ?_ | (with_reducible refine Bel.setCell0 ?_ ?_ _; rotate_left; (first | omega | (simp; done) | (simp; omega))) | (with_reducible refine Bel.setCell ?_ (p := _) ?_ _; rotate_left; (first | (simp; done) | omega | (simp; omega))) | refine Bel.call ?_ (by assumption) | (refine EX.bel ?_ (by assumption) ?_; rotate_left; (first | omega | (simp; omega)))))
      · go_ret
        rename_i h
        refine ⟨ret_int ?_, ?_⟩
        · rw [hc.out, if_pos (by rw [Int.tmod_eq_emod_of_nonneg g3] at h; simpa [szI] using h)]
        · refine Bel.bel (B := _) ?_
          (repeat (first | with_reducible assumption | with_reducible exact Bel.refl _ | with_reducible refine Bel.alloc ?_ _ | with_reducible refine Bel.drewN ?_ _ | with_reducible refine Bel.drew ?_ | (with_reducible refine Bel.setCell0 ?_ ?_ _; rotate_left; (first | omega | (simp; done) | (simp; omega))) | (with_reducible refine Bel.setCell ?_ (p := _) ?_ _; rotate_left; (first | (simp; done) | omega | (simp; omega))) | refine Bel.call ?_ (by assumption) | (refine EX.bel ?_ (by assumption) ?_; rotate_left; (first | omega | (simp; omega)))))
    · have e2 : within a 0 65535 = false := by simp [within]; omega
      have hc := Lib.hid (chk_3 (a := a) (l := l) (by omega))
      clear hl ha
      go_enter Try.func46, Try.ntmps46
      go_wp2_with (first | (go_at_call 47; refine (within_any _ _ _ _).mono ?_; rintro e w' ⟨rfl, rfl⟩))
      go_ret
      refine ⟨ret_int hc.out.symm, ?_⟩
      refine Bel.bel (B := _) ?_
      (repeat (first | with_reducible assumption | with_reducible exact Bel.refl _ | with_reducible refine Bel.alloc ?_ _ | with_reducible refine Bel.drewN ?_ _ | with_reducible refine Bel.drew ?_ | (with_reducible refine Bel.setCell0 ?_ ?_ _; rotate_left; (first | omega | (simp; done) | (simp; omega))) | (with_reducible refine Bel.setCell ?_ (p := _) ?_ _; rotate_left; (first | (simp; done) | omega | (simp; omega))) | refine Bel.call ?_ (by assumption) | (refine EX.bel ?_ (by assumption) ?_; rotate_left; (first | omega | (simp; omega)))))
  · have e1 : within l 0 16 = false := by simp [within]; omega
    have hc := Lib.hid (chk_3 (a := a) (l := l) (by omega))
    clear hl
    go_enter Try.func46, Try.ntmps46
    go_wp2_with (first | (go_at_call 47; refine (within_any _ _ _ _).mono ?_; rintro e w' ⟨rfl, rfl⟩))
    go_ret
    refine ⟨ret_int hc.out.symm, ?_⟩
    refine Bel.bel (B := _) ?_
    (repeat (first | with_reducible assumption | with_reducible exact Bel.refl _ | with_reducible refine Bel.alloc ?_ _ | with_reducible refine Bel.drewN ?_ _ | with_reducible refine Bel.drew ?_ | (with_reducible refine Bel.setCell0 ?_ ?_ _; rotate_left; (first | omega | (simp; done) | (simp; omega))) | (with_reducible refine Bel.setCell ?_ (p := _) ?_ _; rotate_left; (first | (simp; done) | omega | (simp; omega))) | refine Bel.call ?_ (by assumption) | (refine EX.bel ?_ (by assumption) ?_; rotate_left; (first | omega | (simp; omega)))))
def lastI (a l : Int) : Int := a + szI l - 1
def rightB (a l : Int) : Bool := chk a l == 0
def holdB (a l x : Int) : Bool := rightB a l && within x a (lastI a l)
def insR (a l b m : Int) : Bool := rightB a l && rightB b m && holdB b m a && holdB b m (lastI a l)
def meetB (a l b m : Int) : Bool := rightB a l && rightB b m && decide (a ≤ lastI b m) && decide (b ≤ lastI a l)
theorem right_bd {a l : Int} (h : rightB a l = true) : 0 ≤ l ∧ l ≤ 16 ∧ 0 ≤ a ∧ a ≤ 65535 ∧ a % szI l = 0 := by
  have h0 : chk a l = 0 := by simpa [rightB] using h
  unfold chk at h0
  split at h0
  · omega
  · rename_i h1
    split at h0
    · rename_i h2; exact ⟨by omega, by omega, by omega, by omega, h2⟩
    · omega
theorem rightR_any (a l : Int) (w : World) :
    Calls Try.prog 26 #[.agg #[.int .i64 a, .int .i64 l]] w fun e w' => e = .returned (.bool (rightB a l)) ∧ Ext w w' := by
  go_enter Try.func26, Try.ntmps26
  go_wp2_with fail
  refine (checkPrefix_any a l _).mono ?_
  rintro e w1 ⟨rfl, hw1⟩
  obtain ⟨hcw1, hfw1⟩ := bcell hw1
  have hzw1 := bsize hw1
  (try simp only [World.size_alloc, World.size_setCell, World.size_drew, World.heap_drewN] at hcw1 hfw1 hzw1)
  go_wp2_with fail
  go_ret
  refine ⟨ret_bool rfl, Bel.bel (B := _) ?_⟩
  (repeat (first | with_reducible assumption | with_reducible exact Bel.refl _ | with_reducible refine Bel.alloc ?_ _ | with_reducible refine Bel.drewN ?_ _ | with_reducible refine Bel.drew ?_ | (with_reducible refine Bel.setCell0 ?_ ?_ _; rotate_left; (first | omega | (simp; done) | (simp; omega))) | (with_reducible refine Bel.setCell ?_ (p := _) ?_ _; rotate_left; (first | (simp; done) | omega | (simp; omega))) | refine Bel.call ?_ (by assumption) | (refine EX.bel ?_ (by assumption) ?_; rotate_left; (first | omega | (simp; omega)))))
set_option maxHeartbeats 400000 in
theorem last_any (a l : Int) (w : World) (h : rightB a l = true) :
    Calls Try.prog 30 #[.agg #[.int .i64 a, .int .i64 l]] w fun e w' => e = .returned (.int .i64 (lastI a l)) ∧ Ext w w' := by
  obtain ⟨g1, g2, g3, g4, -⟩ := right_bd h
  obtain ⟨z1, z2⟩ := szI_bd g1
  clear h
  go_enter Try.func30, Try.ntmps30
  go_wp2_with fail
  refine region_ext (by kernel_rfl) (by kernel_rfl) ?_
  repeat (first | ((first | refine skip_t rfl rfl rfl (by with_reducible rfl) ?_ | refine skip_f rfl rfl rfl (by with_reducible rfl) ?_ | refine skip_u rfl rfl rfl (by with_reducible rfl) ?_); simp only [Act.put, List.setIfInBounds_toArray, List.set_cons_zero, List.set_cons_succ]) | (apply quiet_take; (first | exact want_0 rfl | exact want_b rfl rfl rfl (by with_reducible rfl)); intro wq hwq R hR; (have hcc := (bcell hwq).1; (try simp only [World.size_alloc, World.size_setCell, World.size_drew, World.heap_drewN] at hcc); go_simp; first | exact hR | ((go_at_call 29; exact callq_same hwq (sizeOf_any _ _ g1 g2) hR))); simp only [Act.put, List.setIfInBounds_toArray, List.set_cons_zero, List.set_cons_succ]))
  refine wpQuiet_nil ?_
  intro w1 hw1
  obtain ⟨hcw1, hfw1⟩ := bcell hw1
  have hzw1 := bsize hw1
  (try simp only [World.size_alloc, World.size_setCell, World.size_drew, World.heap_drewN] at hcw1 hfw1 hzw1)
  go_wp2_with fail
  go_ret
  refine ⟨ret_int (by simp only [IntKind.wrap_i64]; unfold lastI; omega), Bel.bel (B := _) ?_⟩
  (repeat (first | with_reducible assumption | with_reducible exact Bel.refl _ | with_reducible refine Bel.alloc ?_ _ | with_reducible refine Bel.drewN ?_ _ | with_reducible refine Bel.drew ?_ | (with_reducible refine Bel.setCell0 ?_ ?_ _; rotate_left; (first | omega | (simp; done) | (simp; omega))) | (with_reducible refine Bel.setCell ?_ (p := _) ?_ _; rotate_left; (first | (simp; done) | omega | (simp; omega))) | refine Bel.call ?_ (by assumption) | (refine EX.bel ?_ (by assumption) ?_; rotate_left; (first | omega | (simp; omega)))))
set_option maxHeartbeats 400000 in
theorem holdsIt_any (a l x : Int) (w : World) :
    Calls Try.prog 32 #[.agg #[.int .i64 a, .int .i64 l], .int .i64 x] w fun e w' => e = .returned (.bool (holdB a l x)) ∧ Ext w w' := by
  by_cases h : rightB a l = true
  · have hv : holdB a l x = within x a (lastI a l) := by simp [holdB, h]
    rw [hv]
    go_enter Try.func32, Try.ntmps32
    go_wp2_with fail
    refine region_ext (by kernel_rfl) (by kernel_rfl) ?_
    repeat (first | ((first | refine skip_t rfl rfl rfl (by with_reducible rfl) ?_ | refine skip_f rfl rfl rfl (by with_reducible rfl) ?_ | refine skip_u rfl rfl rfl (by with_reducible rfl) ?_); simp only [Act.put, List.setIfInBounds_toArray, List.set_cons_zero, List.set_cons_succ]) | (apply quiet_take; (first | exact want_0 rfl | exact want_b rfl rfl rfl (by with_reducible rfl)); intro wq hwq R hR; (have hcc := (bcell hwq).1; (try simp only [World.size_alloc, World.size_setCell, World.size_drew, World.heap_drewN] at hcc); go_simp; first | exact hR | (first | (go_at_call 26; exact callq hwq (rightR_any _ _ _) hR) | (go_at_call 30; exact callq hwq (last_any _ _ _ h) hR) | (go_at_call 47; exact callq_same hwq (within_any _ _ _ _) hR))); simp only [Act.put, List.setIfInBounds_toArray, List.set_cons_zero, List.set_cons_succ]))
    refine wpQuiet_nil ?_
    intro w1 hw1
    obtain ⟨hcw1, hfw1⟩ := bcell hw1
    have hzw1 := bsize hw1
    (try simp only [World.size_alloc, World.size_setCell, World.size_drew, World.heap_drewN] at hcw1 hfw1 hzw1)
    go_wp2_with fail
    go_ret
    refine ⟨ret_bool rfl, Bel.bel (B := _) ?_⟩
    (repeat (first | with_reducible assumption | with_reducible exact Bel.refl _ | with_reducible refine Bel.alloc ?_ _ | with_reducible refine Bel.drewN ?_ _ | with_reducible refine Bel.drew ?_ | (with_reducible refine Bel.setCell0 ?_ ?_ _; rotate_left; (first | omega | (simp; done) | (simp; omega))) | (with_reducible refine Bel.setCell ?_ (p := _) ?_ _; rotate_left; (first | (simp; done) | omega | (simp; omega))) | refine Bel.call ?_ (by assumption) | (refine EX.bel ?_ (by assumption) ?_; rotate_left; (first | omega | (simp; omega)))))
  · have h := (Bool.not_eq_true _).mp h
    have hv : holdB a l x = false := by simp [holdB, h]
    rw [hv]
    go_enter Try.func32, Try.ntmps32
    go_wp2_with fail
    refine region_ext (by kernel_rfl) (by kernel_rfl) ?_
    repeat (first | ((first | refine skip_t rfl rfl rfl (by with_reducible rfl) ?_ | refine skip_f rfl rfl rfl (by with_reducible rfl) ?_ | refine skip_u rfl rfl rfl (by with_reducible rfl) ?_); simp only [Act.put, List.setIfInBounds_toArray, List.set_cons_zero, List.set_cons_succ]) | (apply quiet_take; (first | exact want_0 rfl | exact want_b rfl rfl rfl (by with_reducible rfl)); intro wq hwq R hR; (have hcc := (bcell hwq).1; (try simp only [World.size_alloc, World.size_setCell, World.size_drew, World.heap_drewN] at hcc); go_simp; first | exact hR | (first | (go_at_call 26; exact callq hwq (rightR_any _ _ _) hR))); simp only [Act.put, List.setIfInBounds_toArray, List.set_cons_zero, List.set_cons_succ]))
    refine wpQuiet_nil ?_
    intro w1 hw1
    obtain ⟨hcw1, hfw1⟩ := bcell hw1
    have hzw1 := bsize hw1
    (try simp only [World.size_alloc, World.size_setCell, World.size_drew, World.heap_drewN] at hcw1 hfw1 hzw1)
    go_wp2_with fail
    go_ret
    refine ⟨ret_bool rfl, Bel.bel (B := _) ?_⟩
    (repeat (first | with_reducible assumption | with_reducible exact Bel.refl _ | with_reducible refine Bel.alloc ?_ _ | with_reducible refine Bel.drewN ?_ _ | with_reducible refine Bel.drew ?_ | (with_reducible refine Bel.setCell0 ?_ ?_ _; rotate_left; (first | omega | (simp; done) | (simp; omega))) | (with_reducible refine Bel.setCell ?_ (p := _) ?_ _; rotate_left; (first | (simp; done) | omega | (simp; omega))) | refine Bel.call ?_ (by assumption) | (refine EX.bel ?_ (by assumption) ?_; rotate_left; (first | omega | (simp; omega)))))
set_option maxHeartbeats 800000 in
theorem insideOf_any (a l b m : Int) (w : World) :
    Calls Try.prog 27 #[.agg #[.int .i64 a, .int .i64 l], .agg #[.int .i64 b, .int .i64 m]] w fun e w' => e = .returned (.bool (insR a l b m)) ∧ Ext w w' := by
  cases hA : rightB a l
  case false =>
    go_enter Try.func27, Try.ntmps27
    go_wp2_with fail
    refine region_ext (by kernel_rfl) (by kernel_rfl) ?_
    repeat (first | ((first | refine skip_t rfl rfl rfl (by with_reducible rfl) ?_ | refine skip_f rfl rfl rfl (by with_reducible rfl) ?_ | refine skip_u rfl rfl rfl (by with_reducible rfl) ?_); simp only [Act.put, List.setIfInBounds_toArray, List.set_cons_zero, List.set_cons_succ]) | (apply quiet_take; (first | exact want_0 rfl | exact want_b rfl rfl rfl (by with_reducible rfl)); intro wq hwq R hR; (have hcc := (bcell hwq).1; (try simp only [World.size_alloc, World.size_setCell, World.size_drew, World.heap_drewN] at hcc); go_simp; first | exact hR | (first | (go_at_call 26; exact callq hwq (rightR_any _ _ _) hR))); simp only [Act.put, List.setIfInBounds_toArray, List.set_cons_zero, List.set_cons_succ]))
    refine wpQuiet_nil ?_
    intro w1 hw1
    obtain ⟨hcw1, hfw1⟩ := bcell hw1
    have hzw1 := bsize hw1
    (try simp only [World.size_alloc, World.size_setCell, World.size_drew, World.heap_drewN] at hcw1 hfw1 hzw1)
    go_wp2_with fail
    go_ret
    refine ⟨ret_bool (by simp [insR, hA]), Bel.bel (B := _) ?_⟩
    (repeat (first | with_reducible assumption | with_reducible exact Bel.refl _ | with_reducible refine Bel.alloc ?_ _ | with_reducible refine Bel.drewN ?_ _ | with_reducible refine Bel.drew ?_ | (with_reducible refine Bel.setCell0 ?_ ?_ _; rotate_left; (first | omega | (simp; done) | (simp; omega))) | (with_reducible refine Bel.setCell ?_ (p := _) ?_ _; rotate_left; (first | (simp; done) | omega | (simp; omega))) | refine Bel.call ?_ (by assumption) | (refine EX.bel ?_ (by assumption) ?_; rotate_left; (first | omega | (simp; omega)))))
  case true =>
    cases hB : rightB b m
    case false =>
      go_enter Try.func27, Try.ntmps27
      go_wp2_with fail
      refine region_ext (by kernel_rfl) (by kernel_rfl) ?_
      repeat (first | ((first | refine skip_t rfl rfl rfl (by with_reducible rfl) ?_ | refine skip_f rfl rfl rfl (by with_reducible rfl) ?_ | refine skip_u rfl rfl rfl (by with_reducible rfl) ?_); simp only [Act.put, List.setIfInBounds_toArray, List.set_cons_zero, List.set_cons_succ]) | (apply quiet_take; (first | exact want_0 rfl | exact want_b rfl rfl rfl (by with_reducible rfl)); intro wq hwq R hR; (have hcc := (bcell hwq).1; (try simp only [World.size_alloc, World.size_setCell, World.size_drew, World.heap_drewN] at hcc); go_simp; first | exact hR | (first | (go_at_call 26; exact callq hwq (rightR_any _ _ _) hR))); simp only [Act.put, List.setIfInBounds_toArray, List.set_cons_zero, List.set_cons_succ]))
      refine wpQuiet_nil ?_
      intro w1 hw1
      obtain ⟨hcw1, hfw1⟩ := bcell hw1
      have hzw1 := bsize hw1
      (try simp only [World.size_alloc, World.size_setCell, World.size_drew, World.heap_drewN] at hcw1 hfw1 hzw1)
      go_wp2_with fail
      go_ret
      refine ⟨ret_bool (by simp [insR, hA, hB]), Bel.bel (B := _) ?_⟩
      (repeat (first | with_reducible assumption | with_reducible exact Bel.refl _ | with_reducible refine Bel.alloc ?_ _ | with_reducible refine Bel.drewN ?_ _ | with_reducible refine Bel.drew ?_ | (with_reducible refine Bel.setCell0 ?_ ?_ _; rotate_left; (first | omega | (simp; done) | (simp; omega))) | (with_reducible refine Bel.setCell ?_ (p := _) ?_ _; rotate_left; (first | (simp; done) | omega | (simp; omega))) | refine Bel.call ?_ (by assumption) | (refine EX.bel ?_ (by assumption) ?_; rotate_left; (first | omega | (simp; omega)))))
    case true =>
      cases hC : holdB b m a
      case false =>
        go_enter Try.func27, Try.ntmps27
        go_wp2_with fail
        refine region_ext (by kernel_rfl) (by kernel_rfl) ?_
        repeat (first | ((first | refine skip_t rfl rfl rfl (by with_reducible rfl) ?_ | refine skip_f rfl rfl rfl (by with_reducible rfl) ?_ | refine skip_u rfl rfl rfl (by with_reducible rfl) ?_); simp only [Act.put, List.setIfInBounds_toArray, List.set_cons_zero, List.set_cons_succ]) | (apply quiet_take; (first | exact want_0 rfl | exact want_b rfl rfl rfl (by with_reducible rfl)); intro wq hwq R hR; (have hcc := (bcell hwq).1; (try simp only [World.size_alloc, World.size_setCell, World.size_drew, World.heap_drewN] at hcc); go_simp; first | exact hR | (first | (go_at_call 26; exact callq hwq (rightR_any _ _ _) hR) | (go_at_call 32; exact callq hwq (holdsIt_any _ _ _ _) hR) | (go_at_call 30; exact callq hwq (last_any _ _ _ hA) hR))); simp only [Act.put, List.setIfInBounds_toArray, List.set_cons_zero, List.set_cons_succ]))
        refine wpQuiet_nil ?_
        intro w1 hw1
        obtain ⟨hcw1, hfw1⟩ := bcell hw1
        have hzw1 := bsize hw1
        (try simp only [World.size_alloc, World.size_setCell, World.size_drew, World.heap_drewN] at hcw1 hfw1 hzw1)
        go_wp2_with fail
        go_ret
        refine ⟨ret_bool (by simp [insR, hA, hB, hC]), Bel.bel (B := _) ?_⟩
        (repeat (first | with_reducible assumption | with_reducible exact Bel.refl _ | with_reducible refine Bel.alloc ?_ _ | with_reducible refine Bel.drewN ?_ _ | with_reducible refine Bel.drew ?_ | (with_reducible refine Bel.setCell0 ?_ ?_ _; rotate_left; (first | omega | (simp; done) | (simp; omega))) | (with_reducible refine Bel.setCell ?_ (p := _) ?_ _; rotate_left; (first | (simp; done) | omega | (simp; omega))) | refine Bel.call ?_ (by assumption) | (refine EX.bel ?_ (by assumption) ?_; rotate_left; (first | omega | (simp; omega)))))
      case true =>
        go_enter Try.func27, Try.ntmps27
        go_wp2_with fail
        refine region_ext (by kernel_rfl) (by kernel_rfl) ?_
        repeat (first | ((first | refine skip_t rfl rfl rfl (by with_reducible rfl) ?_ | refine skip_f rfl rfl rfl (by with_reducible rfl) ?_ | refine skip_u rfl rfl rfl (by with_reducible rfl) ?_); simp only [Act.put, List.setIfInBounds_toArray, List.set_cons_zero, List.set_cons_succ]) | (apply quiet_take; (first | exact want_0 rfl | exact want_b rfl rfl rfl (by with_reducible rfl)); intro wq hwq R hR; (have hcc := (bcell hwq).1; (try simp only [World.size_alloc, World.size_setCell, World.size_drew, World.heap_drewN] at hcc); go_simp; first | exact hR | (first | (go_at_call 26; exact callq hwq (rightR_any _ _ _) hR) | (go_at_call 32; exact callq hwq (holdsIt_any _ _ _ _) hR) | (go_at_call 30; exact callq hwq (last_any _ _ _ hA) hR))); simp only [Act.put, List.setIfInBounds_toArray, List.set_cons_zero, List.set_cons_succ]))
        refine wpQuiet_nil ?_
        intro w1 hw1
        obtain ⟨hcw1, hfw1⟩ := bcell hw1
        have hzw1 := bsize hw1
        (try simp only [World.size_alloc, World.size_setCell, World.size_drew, World.heap_drewN] at hcw1 hfw1 hzw1)
        go_wp2_with fail
        go_ret
        refine ⟨ret_bool (by simp [insR, hA, hB, hC]), Bel.bel (B := _) ?_⟩
        (repeat (first | with_reducible assumption | with_reducible exact Bel.refl _ | with_reducible refine Bel.alloc ?_ _ | with_reducible refine Bel.drewN ?_ _ | with_reducible refine Bel.drew ?_ | (with_reducible refine Bel.setCell0 ?_ ?_ _; rotate_left; (first | omega | (simp; done) | (simp; omega))) | (with_reducible refine Bel.setCell ?_ (p := _) ?_ _; rotate_left; (first | (simp; done) | omega | (simp; omega))) | refine Bel.call ?_ (by assumption) | (refine EX.bel ?_ (by assumption) ?_; rotate_left; (first | omega | (simp; omega)))))
set_option maxHeartbeats 800000 in
theorem meet_any (a l b m : Int) (w : World) :
    Calls Try.prog 28 #[.agg #[.int .i64 a, .int .i64 l], .agg #[.int .i64 b, .int .i64 m]] w fun e w' => e = .returned (.bool (meetB a l b m)) ∧ Ext w w' := by
  cases hA : rightB a l
  case false =>
    go_enter Try.func28, Try.ntmps28
    go_wp2_with fail
    refine region_ext (by kernel_rfl) (by kernel_rfl) ?_
    repeat (first | ((first | refine skip_t rfl rfl rfl (by with_reducible rfl) ?_ | refine skip_f rfl rfl rfl (by with_reducible rfl) ?_ | refine skip_u rfl rfl rfl (by with_reducible rfl) ?_); simp only [Act.put, List.setIfInBounds_toArray, List.set_cons_zero, List.set_cons_succ]) | (apply quiet_take; (first | exact want_0 rfl | exact want_b rfl rfl rfl (by with_reducible rfl)); intro wq hwq R hR; (have hcc := (bcell hwq).1; (try simp only [World.size_alloc, World.size_setCell, World.size_drew, World.heap_drewN] at hcc); go_simp; first | exact hR | (first | (go_at_call 26; exact callq hwq (rightR_any _ _ _) hR))); simp only [Act.put, List.setIfInBounds_toArray, List.set_cons_zero, List.set_cons_succ]))
    refine wpQuiet_nil ?_
    intro w1 hw1
    obtain ⟨hcw1, hfw1⟩ := bcell hw1
    have hzw1 := bsize hw1
    (try simp only [World.size_alloc, World.size_setCell, World.size_drew, World.heap_drewN] at hcw1 hfw1 hzw1)
    go_wp2_with fail
    go_ret
    refine ⟨ret_bool (by simp [meetB, hA]), Bel.bel (B := _) ?_⟩
    (repeat (first | with_reducible assumption | with_reducible exact Bel.refl _ | with_reducible refine Bel.alloc ?_ _ | with_reducible refine Bel.drewN ?_ _ | with_reducible refine Bel.drew ?_ | (with_reducible refine Bel.setCell0 ?_ ?_ _; rotate_left; (first | omega | (simp; done) | (simp; omega))) | (with_reducible refine Bel.setCell ?_ (p := _) ?_ _; rotate_left; (first | (simp; done) | omega | (simp; omega))) | refine Bel.call ?_ (by assumption) | (refine EX.bel ?_ (by assumption) ?_; rotate_left; (first | omega | (simp; omega)))))
  case true =>
    cases hB : rightB b m
    case false =>
      go_enter Try.func28, Try.ntmps28
      go_wp2_with fail
      refine region_ext (by kernel_rfl) (by kernel_rfl) ?_
      repeat (first | ((first | refine skip_t rfl rfl rfl (by with_reducible rfl) ?_ | refine skip_f rfl rfl rfl (by with_reducible rfl) ?_ | refine skip_u rfl rfl rfl (by with_reducible rfl) ?_); simp only [Act.put, List.setIfInBounds_toArray, List.set_cons_zero, List.set_cons_succ]) | (apply quiet_take; (first | exact want_0 rfl | exact want_b rfl rfl rfl (by with_reducible rfl)); intro wq hwq R hR; (have hcc := (bcell hwq).1; (try simp only [World.size_alloc, World.size_setCell, World.size_drew, World.heap_drewN] at hcc); go_simp; first | exact hR | (first | (go_at_call 26; exact callq hwq (rightR_any _ _ _) hR))); simp only [Act.put, List.setIfInBounds_toArray, List.set_cons_zero, List.set_cons_succ]))
      refine wpQuiet_nil ?_
      intro w1 hw1
      obtain ⟨hcw1, hfw1⟩ := bcell hw1
      have hzw1 := bsize hw1
      (try simp only [World.size_alloc, World.size_setCell, World.size_drew, World.heap_drewN] at hcw1 hfw1 hzw1)
      go_wp2_with fail
      go_ret
      refine ⟨ret_bool (by simp [meetB, hA, hB]), Bel.bel (B := _) ?_⟩
      (repeat (first | with_reducible assumption | with_reducible exact Bel.refl _ | with_reducible refine Bel.alloc ?_ _ | with_reducible refine Bel.drewN ?_ _ | with_reducible refine Bel.drew ?_ | (with_reducible refine Bel.setCell0 ?_ ?_ _; rotate_left; (first | omega | (simp; done) | (simp; omega))) | (with_reducible refine Bel.setCell ?_ (p := _) ?_ _; rotate_left; (first | (simp; done) | omega | (simp; omega))) | refine Bel.call ?_ (by assumption) | (refine EX.bel ?_ (by assumption) ?_; rotate_left; (first | omega | (simp; omega)))))
    case true =>
      cases hC : decide (a ≤ lastI b m)
      case false =>
        go_enter Try.func28, Try.ntmps28
        go_wp2_with fail
        refine region_ext (by kernel_rfl) (by kernel_rfl) ?_
        repeat (first | ((first | refine skip_t rfl rfl rfl (by with_reducible rfl) ?_ | refine skip_f rfl rfl rfl (by with_reducible rfl) ?_ | refine skip_u rfl rfl rfl (by with_reducible rfl) ?_); simp only [Act.put, List.setIfInBounds_toArray, List.set_cons_zero, List.set_cons_succ]) | (apply quiet_take; (first | exact want_0 rfl | exact want_b rfl rfl rfl (by with_reducible rfl)); intro wq hwq R hR; (have hcc := (bcell hwq).1; (try simp only [World.size_alloc, World.size_setCell, World.size_drew, World.heap_drewN] at hcc); go_simp; first | exact hR | (first | (go_at_call 26; exact callq hwq (rightR_any _ _ _) hR) | (go_at_call 30; exact callq hwq (last_any _ _ _ (by assumption)) hR))); simp only [Act.put, List.setIfInBounds_toArray, List.set_cons_zero, List.set_cons_succ]))
        refine wpQuiet_nil ?_
        intro w1 hw1
        obtain ⟨hcw1, hfw1⟩ := bcell hw1
        have hzw1 := bsize hw1
        (try simp only [World.size_alloc, World.size_setCell, World.size_drew, World.heap_drewN] at hcw1 hfw1 hzw1)
        go_wp2_with fail
        go_ret
        refine ⟨ret_bool (by simp [meetB, hA, hB, hC]), Bel.bel (B := _) ?_⟩
        (repeat (first | with_reducible assumption | with_reducible exact Bel.refl _ | with_reducible refine Bel.alloc ?_ _ | with_reducible refine Bel.drewN ?_ _ | with_reducible refine Bel.drew ?_ | (with_reducible refine Bel.setCell0 ?_ ?_ _; rotate_left; (first | omega | (simp; done) | (simp; omega))) | (with_reducible refine Bel.setCell ?_ (p := _) ?_ _; rotate_left; (first | (simp; done) | omega | (simp; omega))) | refine Bel.call ?_ (by assumption) | (refine EX.bel ?_ (by assumption) ?_; rotate_left; (first | omega | (simp; omega)))))
      case true =>
        go_enter Try.func28, Try.ntmps28
        go_wp2_with fail
        refine region_ext (by kernel_rfl) (by kernel_rfl) ?_
        repeat (first | ((first | refine skip_t rfl rfl rfl (by with_reducible rfl) ?_ | refine skip_f rfl rfl rfl (by with_reducible rfl) ?_ | refine skip_u rfl rfl rfl (by with_reducible rfl) ?_); simp only [Act.put, List.setIfInBounds_toArray, List.set_cons_zero, List.set_cons_succ]) | (apply quiet_take; (first | exact want_0 rfl | exact want_b rfl rfl rfl (by with_reducible rfl)); intro wq hwq R hR; (have hcc := (bcell hwq).1; (try simp only [World.size_alloc, World.size_setCell, World.size_drew, World.heap_drewN] at hcc); go_simp; first | exact hR | (first | (go_at_call 26; exact callq hwq (rightR_any _ _ _) hR) | (go_at_call 30; exact callq hwq (last_any _ _ _ (by assumption)) hR))); simp only [Act.put, List.setIfInBounds_toArray, List.set_cons_zero, List.set_cons_succ]))
        refine wpQuiet_nil ?_
        intro w1 hw1
        obtain ⟨hcw1, hfw1⟩ := bcell hw1
        have hzw1 := bsize hw1
        (try simp only [World.size_alloc, World.size_setCell, World.size_drew, World.heap_drewN] at hcw1 hfw1 hzw1)
        go_wp2_with fail
        go_ret
        refine ⟨ret_bool (by simp [meetB, hA, hB, hC]), Bel.bel (B := _) ?_⟩
        (repeat (first | with_reducible assumption | with_reducible exact Bel.refl _ | with_reducible refine Bel.alloc ?_ _ | with_reducible refine Bel.drewN ?_ _ | with_reducible refine Bel.drew ?_ | (with_reducible refine Bel.setCell0 ?_ ?_ _; rotate_left; (first | omega | (simp; done) | (simp; omega))) | (with_reducible refine Bel.setCell ?_ (p := _) ?_ _; rotate_left; (first | (simp; done) | omega | (simp; omega))) | refine Bel.call ?_ (by assumption) | (refine EX.bel ?_ (by assumption) ?_; rotate_left; (first | omega | (simp; omega)))))
end Go.Proofs.Ytflbpkgnadjokaa
namespace Go.Proofs.Ytflbpkgnadjokaa
open Go Go.RowKit Go.Proofs
set_option maxRecDepth 100000
theorem cellsAt_cons {w : World} {b off : Nat} {c : Value} {cs : List Value} (h : w.cell? ⟨b, off, none⟩ = some c) (hs : cellsAt w b (off + 1) cs) : cellsAt w b off (c :: cs) := by
  intro i hi
  match i with
  | 0 => simpa using h
  | i + 1 => have := hs i (by simpa using hi); simpa [Nat.add_assoc, Nat.add_comm 1 i] using this
theorem cellsAt_nil {w : World} {b off : Nat} : cellsAt w b off [] := fun i hi => absurd hi (by simp)
theorem right1 {w : World} {b : Nat} (a l : Int) (v : Bool) (hv : rightB a l = v) (h0 : w.cell? ⟨b, 0, none⟩ = some (.int .i64 a)) (h1 : w.cell? ⟨b, 1, none⟩ = some (.int .i64 l)) :
    Calls Try.prog 41 #[.slice (some ⟨b, 0, none⟩) 1 1] w fun e w' => e = .returned (.bool v) ∧ Ext w w' := by
  have h : Sl (fun _ => True) w 2 Pfx.R (some ⟨b, 0, none⟩) 1 [(⟨a, l⟩ : Pfx)] := by
    refine ⟨by simp, by omega, fun i hi => ?_⟩
    match i with
    | 0 => exact ⟨b, 0, _, rfl, trivial, rfl, rfl, cellsAt_cons h0 (cellsAt_cons h1 cellsAt_nil)⟩
  refine (right_any h).mono fun e w' hh => ⟨hh.1.trans (ret_bool ?_), hh.2⟩
  rw [← hv]; simp [rightB, Pfx.chk]
theorem right2 {w : World} {b : Nat} (a l c m : Int) (v : Bool) (hv : (rightB a l && rightB c m) = v) (h0 : w.cell? ⟨b, 0, none⟩ = some (.int .i64 a)) (h1 : w.cell? ⟨b, 1, none⟩ = some (.int .i64 l))
    (h2 : w.cell? ⟨b, 2, none⟩ = some (.int .i64 c)) (h3 : w.cell? ⟨b, 3, none⟩ = some (.int .i64 m)) :
    Calls Try.prog 41 #[.slice (some ⟨b, 0, none⟩) 2 2] w fun e w' => e = .returned (.bool v) ∧ Ext w w' := by
  have h : Sl (fun _ => True) w 2 Pfx.R (some ⟨b, 0, none⟩) 2 [(⟨a, l⟩ : Pfx), ⟨c, m⟩] := by
    refine ⟨by simp, by omega, fun i hi => ?_⟩
    match i with
    | 0 => exact ⟨b, 0, _, rfl, trivial, rfl, rfl, cellsAt_cons h0 (cellsAt_cons h1 cellsAt_nil)⟩
    | 1 => exact ⟨b, 0, _, rfl, trivial, rfl, rfl, cellsAt_cons h2 (cellsAt_cons h3 cellsAt_nil)⟩
  refine (right_any h).mono fun e w' hh => ⟨hh.1.trans (ret_bool ?_), hh.2⟩
  rw [← hv]; simp [rightB, Pfx.chk]
theorem bv_andnot (x y : BitVec 64) : (x &&& ~~~y).toNat = x.toNat - (x &&& y).toNat := by
  have h1 : (x &&& ~~~y) &&& (x &&& y) = 0#64 := by
    ext i hi
    simp only [BitVec.getElem_and, BitVec.getElem_not, BitVec.getElem_zero]
    cases x[i] <;> cases y[i] <;> rfl
  have h2 : (x &&& ~~~y) + (x &&& y) = x := by
    rw [BitVec.add_eq_or_of_and_eq_zero _ _ h1]
    ext i hi
    simp only [BitVec.getElem_and, BitVec.getElem_not, BitVec.getElem_or]
    cases x[i] <;> cases y[i] <;> rfl
  have h4 := BitVec.toNat_add_of_and_eq_zero h1
  rw [h2] at h4
  omega
theorem andnot_msk (a l : Int) (h0 : 0 ≤ a) (h1 : a ≤ 65535) (h2 : 0 ≤ l) : bits .andNot .i64 a (msk l) = a - a % szI l := by
  obtain ⟨n, rfl⟩ := Int.eq_ofNat_of_zero_le h0
  have hm := msk_bd l h2
  rw [msk_nat] at hm ⊢
  show IntKind.i64.wrap ((BitVec.ofInt 64 (n : Int) &&& ~~~ BitVec.ofInt 64 _).toNat : Int) = _
  rw [bv_andnot, BitVec.toNat_and, ofInt_i64 n (by omega), ofInt_i64 _ (by omega), Nat.and_two_pow_sub_one_eq_mod, IntKind.wrap_i64]
  have := Nat.mod_le n (2 ^ (16 - l).toNat)
  unfold szI
  have h9 : ((n : Int) % 2 ^ (16 - l).toNat) = ((n % 2 ^ (16 - l).toNat : Nat) : Int) := by simp
  omega
def sizeI (a l : Int) : Int := if rightB a l = true then szI l else 0
set_option maxHeartbeats 400000 in
theorem size_any (a l : Int) (w : World) :
    Calls Try.prog 22 #[.agg #[.int .i64 a, .int .i64 l]] w fun e w' => e = .returned (.int .i64 (sizeI a l)) ∧ Ext w w' := by
  cases hA : rightB a l
  case false =>
    have hs : sizeI a l = 0 := by simp [sizeI, hA]
    rw [hs]
    have hv := Lib.hid hA
    go_enter Try.func22, Try.ntmps22
    go_wp2_with (first | (go_at_call 41; refine (right1 a l _ hv.out ?_ ?_).mono ?_; go_simp; go_simp; rintro e w1 ⟨rfl, hw1⟩))
    go_ret
    refine ⟨rfl, Bel.bel (B := _) ?_⟩
    (repeat (first | with_reducible assumption | with_reducible exact Bel.refl _ | with_reducible refine Bel.alloc ?_ _ | with_reducible refine Bel.drewN ?_ _ | with_reducible refine Bel.drew ?_ | (with_reducible refine Bel.setCell0 ?_ ?_ _; rotate_left; (first | omega | (simp; done) | (simp; omega))) | (with_reducible refine Bel.setCell ?_ (p := _) ?_ _; rotate_left; (first | (simp; done) | omega | (simp; omega))) | refine Bel.call ?_ (by assumption) | (refine EX.bel ?_ (by assumption) ?_; rotate_left; (first | omega | (simp; omega)))))
  case true =>
    have hs : sizeI a l = msk l + 1 := by simp [sizeI, hA, msk, szI]
    rw [hs]
    have hv := Lib.hid hA
    obtain ⟨g1, g2, g3, g4, -⟩ := right_bd hA
    obtain ⟨z1, z2⟩ := msk_bd l g1
    go_enter Try.func22, Try.ntmps22
    go_wp2_with (first | (go_at_call 41; refine (right1 a l _ hv.out ?_ ?_).mono ?_; go_simp; go_simp; rintro e w1 ⟨rfl, hw1⟩; obtain ⟨hcw1, hfw1⟩ := bcell hw1; simp only [World.size_alloc] at hcw1 hfw1) | (go_at_call 42; refine (mask_any _ _ g1 g2).mono ?_; rintro e w2 ⟨rfl, rfl⟩))
    go_ret
    refine ⟨rfl, Bel.bel (B := _) ?_⟩
    (repeat (first | with_reducible assumption | with_reducible exact Bel.refl _ | with_reducible refine Bel.alloc ?_ _ | with_reducible refine Bel.drewN ?_ _ | with_reducible refine Bel.drew ?_ | (with_reducible refine Bel.setCell0 ?_ ?_ _; rotate_left; (first | omega | (simp; done) | (simp; omega))) | (with_reducible refine Bel.setCell ?_ (p := _) ?_ _; rotate_left; (first | (simp; done) | omega | (simp; omega))) | refine Bel.call ?_ (by assumption) | (refine EX.bel ?_ (by assumption) ?_; rotate_left; (first | omega | (simp; omega)))))
end Go.Proofs.Ytflbpkgnadjokaa
namespace Go.Proofs.Ytflbpkgnadjokaa
open Go Go.RowKit
section
variable {P : Program} {ops : Array Oper} {Q : Exit → Act → World → Prop}
/-- Whatever order is picked, from every world that extends W. -/
def GO (P : Program) (ops : Array Oper) (Q : Exit → Act → World → Prop) : Nat → Array Bool → Act → World → Prop
  | 0, listed, a, W => Region.ready .any ops listed = [] ∧ ∀ w, Ext W w → Q .normal a w
  | fuel + 1, listed, a, W => ∀ w, Ext W w → (Region.ready .any ops listed = [] → Q .normal a w) ∧
      ∀ i ∈ Region.ready .any ops listed, wpOp P ops Q i (fun a' w' => Ext w w' ∧ GO P ops Q fuel (listed.setIfInBounds i true) a' w') a w
theorem GO.world : ∀ {fuel : Nat} {listed : Array Bool} {a : Act} {W W' : World}, Ext W W' → GO P ops Q fuel listed a W → GO P ops Q fuel listed a W'
  | 0, _, _, _, _, hx, h => ⟨h.1, fun w hw => h.2 w (ext_trans hx hw)⟩
  | _ + 1, _, _, _, _, hx, h => fun w hw => h w (ext_trans hx hw)
theorem GO.any : ∀ {fuel : Nat} {listed : Array Bool} {a : Act} {W : World}, GO P ops Q fuel listed a W → wpAny P .any ops Q fuel listed a W
  | 0, _, _, _, h => ⟨h.1, h.2 _ (Below.refl _ _)⟩
  | _ + 1, _, _, W, h => ⟨(h W (Below.refl _ _)).1, fun i hi => wpOp_mono (fun _ _ h' => GO.any h'.2) ((h W (Below.refl _ _)).2 i hi)⟩
/-- In every world that extends W operation o yields v, and at most extends it. -/
def QY (P : Program) (ops : Array Oper) (W : World) (o : Oper) (v : Value) (a : Act) : Prop :=
  (Region.wanted o (yielded ops a.tmps) = true ∧ ∀ w, Ext W w → o.quietAt P a (Ext w) w v) ∨
  (Region.wanted o (yielded ops a.tmps) = false ∧ v = undef)
theorem QY.world {W W' : World} {o : Oper} {v : Value} {a : Act} (hx : Ext W W') (h : QY P ops W o v a) : QY P ops W' o v a :=
  h.imp (fun ⟨h1, h2⟩ => ⟨h1, fun w hw => h2 w (ext_trans hx hw)⟩) id
theorem QY.of_same {W : World} {o : Oper} {v : Value} {a a' : Act} (hy : QY P ops W o v a) (he : execOp a'.eval o = execOp a.eval o)
    (hw : Region.wanted o (yielded ops a'.tmps) = Region.wanted o (yielded ops a.tmps)) : QY P ops W o v a' := by
  unfold QY Oper.quietAt at *
  rw [he, hw]
  exact hy
theorem QY.wpOp {W : World} {i : Nat} {o : Oper} {v : Value} {a : Act} (hi : ops[i]? = some o) (hy : QY P ops W o v a) {K : Act → World → Prop} {w : World} (hw : Ext W w) (h : ∀ w', Ext w w' → K (a.put o.dst v) w') : wpOp P ops Q i K a w := by
  unfold Go.wpOp
  simp only [hi]
  rcases hy with ⟨hwa, hv⟩ | ⟨hwa, rfl⟩
  · simp only [hwa, if_true]
    left
    exact Oper.wp_of_quiet (C := Ext w) (K := fun a' => a' = a.put o.dst v) (Below.refl _ _) (fun a' w' hw' ha => ha ▸ h w' hw') ⟨v, fun w'' hw'' => by
      have := hv w'' (ext_trans hw hw'')
      unfold Oper.quietAt at *
      generalize (execOp a.eval o).run P w'' = r at *
      cases r with
      | ok n u => cases n <;> simp only [Oper.quietUpon] at this ⊢ <;> first | exact this | exact ⟨this.1, this.2.mono fun _ _ ⟨e1, e2⟩ => ⟨e1, ext_trans hw'' e2⟩⟩
      | halt x u => simp only [Oper.quietUpon] at this, rfl⟩
  · simp only [hwa, Bool.false_eq_true, if_false]
    exact h w (Below.refl _ _)
theorem wpOp_putQ {W : World} {j : Nat} {oi oj : Oper} {v : Value} (hj : ops[j]? = some oj) (hap : oi.apart ops oj = true)
    (hsi : ∀ cs b, oi.op ≠ .select cs b) (hsj : ∀ cs b, oj.op ≠ .select cs b)
    (hQ : ∀ c a w, Q (.panic c) (a.put oi.dst v) w → Q (.panic c) a w) {K : Act → World → Prop} {a : Act} {w : World}
    (hy : QY P ops W oi v a) (h : wpOp P ops Q j K (a.put oi.dst v) w) :
    wpOp P ops Q j (fun a' w' => QY P ops W oi v a' ∧ K (a'.put oi.dst v) w') a w := by
  obtain ⟨h1, h2, h3⟩ := Oper.apart_spec hap
  have keep : ∀ (a : Act), QY P ops W oi v a → ∀ u, QY P ops W oi v (a.put oj.dst u) := fun a hy u =>
    hy.of_same (execOp_put oi hsi a oj.dst u h3) (wanted_put oi a oj.dst u h3)
  have keepD : ∀ d, QY P ops W oi v { a with defers := d :: a.defers } := fun d => hy.of_same rfl rfl
  unfold wpOp at *
  simp only [hj] at *
  rw [wanted_put oj a oi.dst v h1] at h
  split
  · rename_i hw
    simp only [hw, if_true] at h
    rcases h with h | ⟨hasks, hlets⟩
    case inr => exact .inr ⟨by unfold Oper.asks at *; rw [execOp_put oj hsj a oi.dst v h1] at hasks; exact hasks, hlets⟩
    refine .inl ?_
    unfold Oper.wp at *
    rw [execOp_put oj hsj a oi.dst v h1] at h
    generalize (execOp a.eval oj).run P w = r at *
    cases r with
    | ok n w' =>
      cases n <;> simp only [Oper.upon] at h ⊢
      case value u => exact ⟨keep a hy u, by rw [← Act.put_comm a v u h2]; exact h⟩
      case skip => exact ⟨keep a hy _, by rw [← Act.put_comm a v undef h2]; exact h⟩
      case defer d =>
        refine ⟨keep _ (keepD d) _, ?_⟩
        rw [← Act.put_comm _ v undef h2, ← Act.put_defers]
        exact h
      case enter f args =>
        refine Calls.mono h fun e w'' he => ?_
        cases e with
        | returned u => exact ⟨keep a hy u, by rw [← Act.put_comm a v u h2]; exact he⟩
        | panicked c => exact hQ _ _ _ he
        | outgrown => exact he
      case row row args => exact Rows.mono h fun u w'' he => ⟨keep a hy u, by rw [← Act.put_comm a v u h2]; exact he⟩
    | halt x w' =>
      cases x <;> simp only [Oper.upon] at h ⊢
      case panic u => exact hQ _ _ _ h
  · rename_i hw
    simp only [hw] at h
    exact ⟨keep a hy _, by rw [← Act.put_comm a v undef h2]; exact h⟩
theorem GO_first {i : Nat} {oi : Oper} {v : Value} (hi : ops[i]? = some oi) (hsel : ∀ (j : Nat) (o : Oper) cs b, ops[j]? = some o → o.op ≠ .select cs b)
    (hQ : ∀ c a w, Q (.panic c) (a.put oi.dst v) w → Q (.panic c) a w) :
    ∀ (fuel : Nat) (listed : Array Bool) (a : Act) (W : World),
      (∀ j oj, ops[j]? = some oj → j ≠ i → listed.getD j true = false → (∀ e ∈ oj.after, Region.binds .any e = true → e.on ≠ i) → oi.apart ops oj = true) →
      i ∈ Region.ready .any ops listed → QY P ops W oi v a →
      GO P ops Q fuel (listed.setIfInBounds i true) (a.put oi.dst v) W → GO P ops Q (fuel + 1) listed a W := by
  intro fuel
  induction fuel with
  | zero =>
    intro listed a W _ hr hy H w hw
    refine ⟨fun h => (by rw [h] at hr; cases hr), fun j hj => ?_⟩
    by_cases hji : j = i
    · subst hji; exact hy.wpOp hi hw fun w' hw' => ⟨hw', H.world (ext_trans hw hw')⟩
    · have := ready_mono hj hji
      rw [H.1] at this
      cases this
  | succ fuel ih =>
    intro listed a W hfree hr hy H w hw
    refine ⟨fun h => (by rw [h] at hr; cases hr), fun j hj => ?_⟩
    by_cases hji : j = i
    · subst hji; exact hy.wpOp hi hw fun w' hw' => ⟨hw', H.world (ext_trans hw hw')⟩
    · have h1 := (H w hw).2 j (ready_mono hj hji)
      obtain ⟨hjun, oj, hoj, hall⟩ := mem_ready.1 hj
      have hnot : ∀ e ∈ oj.after, Region.binds .any e = true → e.on ≠ i := fun e he hb heq => by
        have h1 := hall e he hb
        have h0 := (mem_ready.1 hr).1
        rw [heq] at h1
        rcases Nat.lt_or_ge i listed.size with h' | h'
        · simp [h'] at h0 h1; rw [h0] at h1; cases h1
        · simp [Array.getElem?_eq_none h'] at h1
      have h2 := wpOp_putQ hoj (hfree j oj hoj hji hjun hnot) (fun cs b => hsel i oi cs b hi) (fun cs b => hsel j oj cs b hoj) hQ (hy.world hw) h1
      have hfree' : ∀ k ok, ops[k]? = some ok → k ≠ i → (listed.setIfInBounds j true).getD k true = false →
          (∀ e ∈ ok.after, Region.binds .any e = true → e.on ≠ i) → oi.apart ops ok = true := fun k ok hk hki hun hno => by
        refine hfree k ok hk hki ?_ hno
        by_cases hjk : j = k
        · subst hjk; exact hjun
        · rw [getD_set_ne true hjk] at hun; exact hun
      refine wpOp_mono (fun a' w' h3 => ⟨h3.2.1, ih (listed.setIfInBounds j true) a' w' hfree' (ready_mono hr (Ne.symm hji)) (h3.1.world h3.2.1) ?_⟩) h2
      rw [Array.setIfInBounds_comm _ _ hji]
      exact h3.2.2
/-- The walk in the order of the text. -/
def wpMix (P : Program) (ops : Array Oper) (Q : Exit → Act → World → Prop) : List Oper → Nat → Array Bool → Act → World → Prop
  | [], _, _, a, W => ∀ w, Ext W w → Q .normal a w
  | o :: rest, k, listed, a, W =>
    (∃ v, QY P ops W o v a ∧ wpMix P ops Q rest (k + 1) (listed.setIfInBounds k true) (a.put o.dst v) W) ∨
    (Region.ready .any ops listed = [k] ∧ Region.wanted o (yielded ops a.tmps) = true ∧ ∀ w, Ext W w → o.wp P a w (fun a' w' => Ext w w' ∧ wpMix P ops Q rest (k + 1) (listed.setIfInBounds k true) a' w') Q)
theorem mix_sound (hs : Region.noSelect ops = true) (hQ : ∀ c a d v w, Q (.panic c) (a.put d v) w → Q (.panic c) a w) : ∀ (l : List Oper) (k : Nat) (listed : Array Bool) (a : Act) (W : World), (∀ j, l[j]? = ops[k + j]?) →
    Region.lexFrom .any ops l.length k listed = true → wpMix P ops Q l k listed a W → GO P ops Q l.length listed a W
  | [], _, _, _, _, _, hB, h => ⟨by simpa [Region.lexFrom] using hB, h⟩
  | o :: l, k, listed, a, W, hl, hB, h => by
    have h0 : ops[k]? = some o := by simpa using (hl 0).symm
    simp only [List.length_cons, Region.lexFrom, Bool.and_eq_true] at hB
    obtain ⟨⟨hr, hf⟩, hB'⟩ := hB
    have hl' : ∀ j, l[j]? = ops[k + 1 + j]? := fun j => by have := hl (j + 1); simpa [Nat.add_assoc, Nat.add_comm 1 j] using this
    rcases h with ⟨v, hy, hK⟩ | ⟨hone, hwa, hK⟩
    · exact GO_first h0 (Region.noSelect_spec hs) (fun c a w => hQ c a _ _ w) l.length listed a W (Region.free_spec h0 hf) (by simpa using hr) hy (mix_sound hs hQ l (k + 1) _ _ _ hl' hB' hK)
    · intro w hw
      refine ⟨fun h => by rw [hone] at h; simp at h, fun i hi => ?_⟩
      rw [hone] at hi
      obtain rfl : i = k := by simpa using hi
      unfold wpOp
      simp only [h0, hwa, if_true]
      left
      exact Oper.wp_mono (fun a' w' h' => ⟨h'.1, mix_sound hs hQ l (i + 1) _ _ _ hl' hB' h'.2⟩) (hK w hw)
theorem region_mix {id : Nat} {a : Act} {w : World} {l : List Oper} (hm : P.follows .mixedOrders = true) (hB : Region.lexB .any l.toArray = true) (hQ : ∀ c a d v w, Q (.panic c) (a.put d v) w → Q (.panic c) a w)
    (h : wpMix P l.toArray Q l 0 (Array.replicate l.length false) a w) : (Code.region id l.toArray true).wp P Q a w := by
  simp only [Region.lexB, Bool.and_eq_true] at hB
  refine wp_region_any hm ?_
  have h2 := mix_sound hB.1 hQ l 0 (Array.replicate l.length false) a w (by simp) (by simpa using hB.2) h
  have h3 := (h2.world ((Below.refl _ _).drew : Ext w w.drew)).any
  simpa using h3
section
variable {o : Oper} {rest : List Oper} {k : Nat} {listed : Array Bool} {a : Act} {W : World}
theorem mix_nil (h : ∀ w, Ext W w → Q .normal a w) : wpMix P ops Q [] k listed a W := h
theorem mix_skip (hw : Region.wanted o (yielded ops a.tmps) = false) (hn : wpMix P ops Q rest (k + 1) (listed.setIfInBounds k true) (a.put o.dst undef) W) : wpMix P ops Q (o :: rest) k listed a W :=
  .inl ⟨undef, .inr ⟨hw, rfl⟩, hn⟩
theorem mix_skip_t {j d : Nat} {v : Value} (hg : o.guard = some (j, true)) (hd : (ops[j]?).bind (·.dst) = some d) (hv : a.tmps.toList[d]? = some v) (hb : v = .bool false) (hn : wpMix P ops Q rest (k + 1) (listed.setIfInBounds k true) (a.put o.dst undef) W) : wpMix P ops Q (o :: rest) k listed a W :=
  mix_skip (by simp [Region.wanted, hg, yields_bool hd hv hb]) hn
theorem mix_skip_f {j d : Nat} {v : Value} (hg : o.guard = some (j, false)) (hd : (ops[j]?).bind (·.dst) = some d) (hv : a.tmps.toList[d]? = some v) (hb : v = .bool true) (hn : wpMix P ops Q rest (k + 1) (listed.setIfInBounds k true) (a.put o.dst undef) W) : wpMix P ops Q (o :: rest) k listed a W :=
  mix_skip (by simp [Region.wanted, hg, yields_bool hd hv hb]) hn
theorem mix_skip_u {j d : Nat} {v : Value} {b : Bool} (hg : o.guard = some (j, b)) (hd : (ops[j]?).bind (·.dst) = some d) (hv : a.tmps.toList[d]? = some v) (hb : v = undef) (hn : wpMix P ops Q rest (k + 1) (listed.setIfInBounds k true) (a.put o.dst undef) W) : wpMix P ops Q (o :: rest) k listed a W :=
  mix_skip (by simp [Region.wanted, hg, yields_undef hd hv hb]) hn
theorem mix_take {v : Value} (hw : Region.wanted o (yielded ops a.tmps) = true) (h : ∀ w, Ext W w → ∀ R : Value → Prop, R v → qUp P w w R ((execOp a.eval o).run P w))
    (hn : wpMix P ops Q rest (k + 1) (listed.setIfInBounds k true) (a.put o.dst v) W) : wpMix P ops Q (o :: rest) k listed a W :=
  .inl ⟨v, .inl ⟨hw, fun w hw => qUp_quiet (h w hw)⟩, hn⟩
theorem mix_alone (hr : Region.ready .any ops listed = [k]) (hw : Region.wanted o (yielded ops a.tmps) = true)
    (h : ∀ w, Ext W w → ∀ K : Act → World → Prop, (∀ a' w', Ext w w' → wpMix P ops Q rest (k + 1) (listed.setIfInBounds k true) a' w' → K a' w') → o.wp P a w K Q) : wpMix P ops Q (o :: rest) k listed a W :=
  .inr ⟨hr, hw, fun w hw => h w hw _ fun _ _ h1 h2 => ⟨h1, h2⟩⟩
end
theorem mcall {f : FuncId} {args : Array Value} {w : World} {R : Value → Prop} {v : Value} (h : Calls P f args w fun e w' => e = .returned v ∧ Ext w w') (hR : R v) : Calls P f args w (qPost w R) :=
  h.mono fun _ _ ⟨he, hx⟩ => ⟨⟨v, he, hR⟩, hx⟩
theorem mcall_same {f : FuncId} {args : Array Value} {w : World} {R : Value → Prop} {v : Value} (h : Calls P f args w fun e w' => e = .returned v ∧ w = w') (hR : R v) : Calls P f args w (qPost w R) :=
  h.mono fun _ _ ⟨he, hx⟩ => ⟨⟨v, he, hR⟩, hx ▸ Below.refl _ _⟩
end
end Go.Proofs.Ytflbpkgnadjokaa
namespace Go.Proofs.Ytflbpkgnadjokaa
open Go Go.RowKit Go.Proofs
set_option maxRecDepth 100000
def insP (a l b m : Int) : Bool := rightB a l && rightB b m && decide (m ≤ l) && (a - a % szI m == b)
set_option maxHeartbeats 1000000 in
theorem inside_any (a l b m : Int) (w : World) :
    Calls Try.prog 20 #[.agg #[.int .i64 a, .int .i64 l], .agg #[.int .i64 b, .int .i64 m]] w fun e w' => e = .returned (.bool (insP a l b m)) ∧ Ext w w' := by
  cases hA : (rightB a l && rightB b m)
  case false =>
    have hs : insP a l b m = false := by simp [insP, hA]
    rw [hs]
    have hv := Lib.hid hA
    clear hA hs
    go_enter Try.func20, Try.ntmps20
    go_wp2_with fail
    refine region_mix (by kernel_rfl) (by kernel_rfl) (fun _ _ d _ _ h => by cases d <;> exact h) ?_
    repeat (first | ((first | refine mix_skip_t rfl rfl rfl (by with_reducible rfl) ?_ | refine mix_skip_f rfl rfl rfl (by with_reducible rfl) ?_ | refine mix_skip_u rfl rfl rfl (by with_reducible rfl) ?_); simp only [Act.put, List.setIfInBounds_toArray, List.set_cons_zero, List.set_cons_succ]) | (apply mix_take; (first | exact want_0 rfl | exact want_b rfl rfl rfl (by with_reducible rfl)); intro wq hwq R hR; ((have hcc := (bcell hwq).1; (try simp only [World.size_alloc, World.size_setCell, World.size_drew, World.heap_drewN] at hcc)); go_simp; first | exact hR | (fail)); simp only [Act.put, List.setIfInBounds_toArray, List.set_cons_zero, List.set_cons_succ]))
    refine mix_alone (by kernel_rfl) (by first | exact want_0 rfl | exact want_b rfl rfl rfl (by with_reducible rfl)) (fun w1 hw1 K hK => ?_)
    obtain ⟨hcw1, hfw1⟩ := bcell hw1
    have hzw1 := bsize hw1
    (try simp only [World.size_alloc, World.size_setCell, World.size_drew, World.heap_drewN] at hcw1 hfw1 hzw1)
    (try have l0w1 : w.heap.size ≤ w1.heap.size := by omega)
    (try have l1w1 : w.heap.size < w1.heap.size := by omega)
    (try have l2w1 : w.heap.size + 1 < w1.heap.size := by omega)
    go_simp
    refine hK _ _ (Bel.bel (B := _) ?_) ?_
    · (repeat (first | with_reducible assumption | with_reducible exact Bel.refl _ | with_reducible refine Bel.alloc ?_ _ | with_reducible refine Bel.drewN ?_ _ | with_reducible refine Bel.drew ?_ | (with_reducible refine Bel.setCell0 ?_ ?_ _; rotate_left; (first | omega | (simp; done) | (simp; omega))) | (with_reducible refine Bel.setCell ?_ (p := _) ?_ _; rotate_left; (first | (simp; done) | omega | (simp; omega))) | refine Bel.call ?_ (by assumption) | (refine EX.bel ?_ (by assumption) ?_; rotate_left; (first | omega | (simp; omega)))))
    clear hK K
    repeat (first | ((first | refine mix_skip_t rfl rfl rfl (by with_reducible rfl) ?_ | refine mix_skip_f rfl rfl rfl (by with_reducible rfl) ?_ | refine mix_skip_u rfl rfl rfl (by with_reducible rfl) ?_); simp only [Act.put, List.setIfInBounds_toArray, List.set_cons_zero, List.set_cons_succ]) | (apply mix_take; (first | exact want_0 rfl | exact want_b rfl rfl rfl (by with_reducible rfl)); intro wq hwq R hR; ((have hcc := (bcell hwq).1; (try simp only [World.size_alloc, World.size_setCell, World.size_drew, World.heap_drewN] at hcc)); go_simp; first | exact hR | ((go_at_call 41; refine mcall (right2 a l b m _ hv.out ?_ ?_ ?_ ?_) hR; go_simp; go_simp; go_simp; go_simp))); simp only [Act.put, List.setIfInBounds_toArray, List.set_cons_zero, List.set_cons_succ]))
    refine mix_nil ?_
    intro w2 hw2
    obtain ⟨hcw2, hfw2⟩ := bcell hw2
    have hzw2 := bsize hw2
    (try simp only [World.size_alloc, World.size_setCell, World.size_drew, World.heap_drewN] at hcw2 hfw2 hzw2)
    go_wp2_with fail
    go_ret
    refine ⟨rfl, Bel.bel (B := _) ?_⟩
    (repeat (first | with_reducible assumption | with_reducible exact Bel.refl _ | with_reducible refine Bel.alloc ?_ _ | with_reducible refine Bel.drewN ?_ _ | with_reducible refine Bel.drew ?_ | (with_reducible refine Bel.setCell0 ?_ ?_ _; rotate_left; (first | omega | (simp; done) | (simp; omega))) | (with_reducible refine Bel.setCell ?_ (p := _) ?_ _; rotate_left; (first | (simp; done) | omega | (simp; omega))) | refine Bel.call ?_ (by assumption) | (refine EX.bel ?_ (by assumption) ?_; rotate_left; (first | omega | (simp; omega)))))
  case true =>
    have hA' := hA
    simp only [Bool.and_eq_true] at hA'
    obtain ⟨g1, g2, g3, g4, -⟩ := right_bd hA'.1
    obtain ⟨k1, k2, k3, k4, -⟩ := right_bd hA'.2
    obtain ⟨z1, z2⟩ := msk_bd m k1
    have hv := Lib.hid hA
    by_cases hm : m ≤ l
    · have hs : insP a l b m = (a - a % szI m == b) := by simp [insP, hA, hm]
      rw [hs]
      have han := andnot_msk a m g3 g4 k1
      have hmI : decide (m ≤ l) = true := by simp [hm]
      clear hA hA' hs hm
      cases hE : (a - a % szI m == b)
      all_goals
        go_enter Try.func20, Try.ntmps20
        go_wp2_with fail
        refine region_mix (by kernel_rfl) (by kernel_rfl) (fun _ _ d _ _ h => by cases d <;> exact h) ?_
        repeat (first | ((first | refine mix_skip_t rfl rfl rfl (by with_reducible rfl) ?_ | refine mix_skip_f rfl rfl rfl (by with_reducible rfl) ?_ | refine mix_skip_u rfl rfl rfl (by with_reducible rfl) ?_); simp only [Act.put, List.setIfInBounds_toArray, List.set_cons_zero, List.set_cons_succ]) | (apply mix_take; (first | exact want_0 rfl | exact want_b rfl rfl rfl (by with_reducible rfl)); intro wq hwq R hR; ((have hcc := (bcell hwq).1; (try simp only [World.size_alloc, World.size_setCell, World.size_drew, World.heap_drewN] at hcc)); go_simp; first | exact hR | (fail)); simp only [Act.put, List.setIfInBounds_toArray, List.set_cons_zero, List.set_cons_succ]))
        refine mix_alone (by kernel_rfl) (by first | exact want_0 rfl | exact want_b rfl rfl rfl (by with_reducible rfl)) (fun w1 hw1 K hK => ?_)
        obtain ⟨hcw1, hfw1⟩ := bcell hw1
        have hzw1 := bsize hw1
        (try simp only [World.size_alloc, World.size_setCell, World.size_drew, World.heap_drewN] at hcw1 hfw1 hzw1)
        (try have l0w1 : w.heap.size ≤ w1.heap.size := by omega)
        (try have l1w1 : w.heap.size < w1.heap.size := by omega)
        (try have l2w1 : w.heap.size + 1 < w1.heap.size := by omega)
        go_simp
        refine hK _ _ (Bel.bel (B := _) ?_) ?_
        · (repeat (first | with_reducible assumption | with_reducible exact Bel.refl _ | with_reducible refine Bel.alloc ?_ _ | with_reducible refine Bel.drewN ?_ _ | with_reducible refine Bel.drew ?_ | (with_reducible refine Bel.setCell0 ?_ ?_ _; rotate_left; (first | omega | (simp; done) | (simp; omega))) | (with_reducible refine Bel.setCell ?_ (p := _) ?_ _; rotate_left; (first | (simp; done) | omega | (simp; omega))) | refine Bel.call ?_ (by assumption) | (refine EX.bel ?_ (by assumption) ?_; rotate_left; (first | omega | (simp; omega)))))
        clear hK K
        repeat (first | ((first | refine mix_skip_t rfl rfl rfl (by with_reducible rfl) ?_ | refine mix_skip_f rfl rfl rfl (by with_reducible rfl) ?_ | refine mix_skip_u rfl rfl rfl (by with_reducible rfl) ?_); simp only [Act.put, List.setIfInBounds_toArray, List.set_cons_zero, List.set_cons_succ]) | (apply mix_take; (first | exact want_0 rfl | exact want_b rfl rfl rfl (by with_reducible rfl)); intro wq hwq R hR; ((have hcc := (bcell hwq).1; (try simp only [World.size_alloc, World.size_setCell, World.size_drew, World.heap_drewN] at hcc)); go_simp; first | exact hR | (first | (go_at_call 41; refine mcall (right2 a l b m _ hv.out ?_ ?_ ?_ ?_) hR; go_simp; go_simp; go_simp; go_simp) | (go_at_call 42; exact mcall_same (mask_any _ _ k1 k2) hR))); simp only [Act.put, List.setIfInBounds_toArray, List.set_cons_zero, List.set_cons_succ]))
        refine mix_nil ?_
        intro w2 hw2
        obtain ⟨hcw2, hfw2⟩ := bcell hw2
        have hzw2 := bsize hw2
        (try simp only [World.size_alloc, World.size_setCell, World.size_drew, World.heap_drewN] at hcw2 hfw2 hzw2)
        go_wp2_with fail
        go_ret
        refine ⟨rfl, Bel.bel (B := _) ?_⟩
        (repeat (first | with_reducible assumption | with_reducible exact Bel.refl _ | with_reducible refine Bel.alloc ?_ _ | with_reducible refine Bel.drewN ?_ _ | with_reducible refine Bel.drew ?_ | (with_reducible refine Bel.setCell0 ?_ ?_ _; rotate_left; (first | omega | (simp; done) | (simp; omega))) | (with_reducible refine Bel.setCell ?_ (p := _) ?_ _; rotate_left; (first | (simp; done) | omega | (simp; omega))) | refine Bel.call ?_ (by assumption) | (refine EX.bel ?_ (by assumption) ?_; rotate_left; (first | omega | (simp; omega)))))
    · have hs : insP a l b m = false := by simp [insP, hA, hm]
      rw [hs]
      have hmI : decide (m ≤ l) = false := by simp [hm]
      clear hA hA' hs hm
      go_enter Try.func20, Try.ntmps20
      go_wp2_with fail
      refine region_mix (by kernel_rfl) (by kernel_rfl) (fun _ _ d _ _ h => by cases d <;> exact h) ?_
      repeat (first | ((first | refine mix_skip_t rfl rfl rfl (by with_reducible rfl) ?_ | refine mix_skip_f rfl rfl rfl (by with_reducible rfl) ?_ | refine mix_skip_u rfl rfl rfl (by with_reducible rfl) ?_); simp only [Act.put, List.setIfInBounds_toArray, List.set_cons_zero, List.set_cons_succ]) | (apply mix_take; (first | exact want_0 rfl | exact want_b rfl rfl rfl (by with_reducible rfl)); intro wq hwq R hR; ((have hcc := (bcell hwq).1; (try simp only [World.size_alloc, World.size_setCell, World.size_drew, World.heap_drewN] at hcc)); go_simp; first | exact hR | (fail)); simp only [Act.put, List.setIfInBounds_toArray, List.set_cons_zero, List.set_cons_succ]))
      refine mix_alone (by kernel_rfl) (by first | exact want_0 rfl | exact want_b rfl rfl rfl (by with_reducible rfl)) (fun w1 hw1 K hK => ?_)
      obtain ⟨hcw1, hfw1⟩ := bcell hw1
      have hzw1 := bsize hw1
      (try simp only [World.size_alloc, World.size_setCell, World.size_drew, World.heap_drewN] at hcw1 hfw1 hzw1)
      (try have l0w1 : w.heap.size ≤ w1.heap.size := by omega)
      (try have l1w1 : w.heap.size < w1.heap.size := by omega)
      (try have l2w1 : w.heap.size + 1 < w1.heap.size := by omega)
      go_simp
      refine hK _ _ (Bel.bel (B := _) ?_) ?_
      · (repeat (first | with_reducible assumption | with_reducible exact Bel.refl _ | with_reducible refine Bel.alloc ?_ _ | with_reducible refine Bel.drewN ?_ _ | with_reducible refine Bel.drew ?_ | (with_reducible refine Bel.setCell0 ?_ ?_ _; rotate_left; (first | omega | (simp; done) | (simp; omega))) | (with_reducible refine Bel.setCell ?_ (p := _) ?_ _; rotate_left; (first | (simp; done) | omega | (simp; omega))) | refine Bel.call ?_ (by assumption) | (refine EX.bel ?_ (by assumption) ?_; rotate_left; (first | omega | (simp; omega)))))
      clear hK K
      repeat (first | ((first | refine mix_skip_t rfl rfl rfl (by with_reducible rfl) ?_ | refine mix_skip_f rfl rfl rfl (by with_reducible rfl) ?_ | refine mix_skip_u rfl rfl rfl (by with_reducible rfl) ?_); simp only [Act.put, List.setIfInBounds_toArray, List.set_cons_zero, List.set_cons_succ]) | (apply mix_take; (first | exact want_0 rfl | exact want_b rfl rfl rfl (by with_reducible rfl)); intro wq hwq R hR; ((have hcc := (bcell hwq).1; (try simp only [World.size_alloc, World.size_setCell, World.size_drew, World.heap_drewN] at hcc)); go_simp; first | exact hR | ((go_at_call 41; refine mcall (right2 a l b m _ hv.out ?_ ?_ ?_ ?_) hR; go_simp; go_simp; go_simp; go_simp))); simp only [Act.put, List.setIfInBounds_toArray, List.set_cons_zero, List.set_cons_succ]))
      refine mix_nil ?_
      intro w2 hw2
      obtain ⟨hcw2, hfw2⟩ := bcell hw2
      have hzw2 := bsize hw2
      (try simp only [World.size_alloc, World.size_setCell, World.size_drew, World.heap_drewN] at hcw2 hfw2 hzw2)
      go_wp2_with fail
      go_ret
      refine ⟨rfl, Bel.bel (B := _) ?_⟩
      (repeat (first | with_reducible assumption | with_reducible exact Bel.refl _ | with_reducible refine Bel.alloc ?_ _ | with_reducible refine Bel.drewN ?_ _ | with_reducible refine Bel.drew ?_ | (with_reducible refine Bel.setCell0 ?_ ?_ _; rotate_left; (first | omega | (simp; done) | (simp; omega))) | (with_reducible refine Bel.setCell ?_ (p := _) ?_ _; rotate_left; (first | (simp; done) | omega | (simp; omega))) | refine Bel.call ?_ (by assumption) | (refine EX.bel ?_ (by assumption) ?_; rotate_left; (first | omega | (simp; omega)))))
end Go.Proofs.Ytflbpkgnadjokaa
namespace Go.Proofs.Ytflbpkgnadjokaa
open Go Go.RowKit Go.Proofs
set_option maxRecDepth 100000
def holdP (a l x : Int) : Bool := rightB a l && (decide (0 ≤ x) && (decide (x ≤ 65535) && (x - x % szI l == a)))
set_option maxHeartbeats 1000000 in
theorem holds_any (a l x : Int) (w : World) :
    Calls Try.prog 23 #[.agg #[.int .i64 a, .int .i64 l], .int .i64 x] w fun e w' => e = .returned (.bool (holdP a l x)) ∧ Ext w w' := by
  cases hA : rightB a l
  case false =>
    have hs : holdP a l x = false := by simp [holdP, hA]
    rw [hs]
    have hv := Lib.hid hA
    clear hA hs
    go_enter Try.func23, Try.ntmps23
    go_wp2_with fail
    refine region_mix (by kernel_rfl) (by kernel_rfl) (fun _ _ d _ _ h => by cases d <;> exact h) ?_
    repeat (first | ((first | refine mix_skip_t rfl rfl rfl (by with_reducible rfl) ?_ | refine mix_skip_f rfl rfl rfl (by with_reducible rfl) ?_ | refine mix_skip_u rfl rfl rfl (by with_reducible rfl) ?_); simp only [Act.put, List.setIfInBounds_toArray, List.set_cons_zero, List.set_cons_succ]) | (apply mix_take; (first | exact want_0 rfl | exact want_b rfl rfl rfl (by with_reducible rfl)); intro wq hwq R hR; ((have hcc := (bcell hwq).1; (try simp only [World.size_alloc, World.size_setCell, World.size_drew, World.heap_drewN] at hcc)); go_simp; first | exact hR | (fail)); simp only [Act.put, List.setIfInBounds_toArray, List.set_cons_zero, List.set_cons_succ]))
    refine mix_alone (by kernel_rfl) (by first | exact want_0 rfl | exact want_b rfl rfl rfl (by with_reducible rfl)) (fun w1 hw1 K hK => ?_)
    obtain ⟨hcw1, hfw1⟩ := bcell hw1
    have hzw1 := bsize hw1
    (try simp only [World.size_alloc, World.size_setCell, World.size_drew, World.heap_drewN] at hcw1 hfw1 hzw1)
    (try have l0w1 : w.heap.size ≤ w1.heap.size := by omega)
    (try have l1w1 : w.heap.size < w1.heap.size := by omega)
    (try have l2w1 : w.heap.size + 1 < w1.heap.size := by omega)
    go_simp
    refine hK _ _ (Bel.bel (B := _) ?_) ?_
    · (repeat (first | with_reducible assumption | with_reducible exact Bel.refl _ | with_reducible refine Bel.alloc ?_ _ | with_reducible refine Bel.drewN ?_ _ | with_reducible refine Bel.drew ?_ | (with_reducible refine Bel.setCell0 ?_ ?_ _; rotate_left; (first | omega | (simp; done) | (simp; omega))) | (with_reducible refine Bel.setCell ?_ (p := _) ?_ _; rotate_left; (first | (simp; done) | omega | (simp; omega))) | refine Bel.call ?_ (by assumption) | (refine EX.bel ?_ (by assumption) ?_; rotate_left; (first | omega | (simp; omega)))))
    clear hK K
    repeat (first | ((first | refine mix_skip_t rfl rfl rfl (by with_reducible rfl) ?_ | refine mix_skip_f rfl rfl rfl (by with_reducible rfl) ?_ | refine mix_skip_u rfl rfl rfl (by with_reducible rfl) ?_); simp only [Act.put, List.setIfInBounds_toArray, List.set_cons_zero, List.set_cons_succ]) | (apply mix_take; (first | exact want_0 rfl | exact want_b rfl rfl rfl (by with_reducible rfl)); intro wq hwq R hR; ((have hcc := (bcell hwq).1; (try simp only [World.size_alloc, World.size_setCell, World.size_drew, World.heap_drewN] at hcc)); go_simp; first | exact hR | ((go_at_call 41; refine mcall (right1 a l _ hv.out ?_ ?_) hR; go_simp; go_simp))); simp only [Act.put, List.setIfInBounds_toArray, List.set_cons_zero, List.set_cons_succ]))
    refine mix_nil ?_
    intro w2 hw2
    obtain ⟨hcw2, hfw2⟩ := bcell hw2
    have hzw2 := bsize hw2
    (try simp only [World.size_alloc, World.size_setCell, World.size_drew, World.heap_drewN] at hcw2 hfw2 hzw2)
    go_wp2_with fail
    go_ret
    refine ⟨rfl, Bel.bel (B := _) ?_⟩
    (repeat (first | with_reducible assumption | with_reducible exact Bel.refl _ | with_reducible refine Bel.alloc ?_ _ | with_reducible refine Bel.drewN ?_ _ | with_reducible refine Bel.drew ?_ | (with_reducible refine Bel.setCell0 ?_ ?_ _; rotate_left; (first | omega | (simp; done) | (simp; omega))) | (with_reducible refine Bel.setCell ?_ (p := _) ?_ _; rotate_left; (first | (simp; done) | omega | (simp; omega))) | refine Bel.call ?_ (by assumption) | (refine EX.bel ?_ (by assumption) ?_; rotate_left; (first | omega | (simp; omega)))))
  case true =>
    obtain ⟨g1, g2, g3, g4, -⟩ := right_bd hA
    obtain ⟨z1, z2⟩ := msk_bd l g1
    have hv := Lib.hid hA
    by_cases h0 : 0 ≤ x
    · by_cases h1 : x ≤ 65535
      · have hs : holdP a l x = (x - x % szI l == a) := by simp [holdP, hA, h0, h1]
        rw [hs]
        have han := andnot_msk x l h0 h1 g1
        have h0I : decide (0 ≤ x) = true := by simp [h0]
        have h1I : decide (x ≤ 65535) = true := by simp [h1]
        clear hA hs
        cases hE : (x - x % szI l == a)
        all_goals
          go_enter Try.func23, Try.ntmps23
          go_wp2_with fail
          refine region_mix (by kernel_rfl) (by kernel_rfl) (fun _ _ d _ _ h => by cases d <;> exact h) ?_
          repeat (first | ((first | refine mix_skip_t rfl rfl rfl (by with_reducible rfl) ?_ | refine mix_skip_f rfl rfl rfl (by with_reducible rfl) ?_ | refine mix_skip_u rfl rfl rfl (by with_reducible rfl) ?_); simp only [Act.put, List.setIfInBounds_toArray, List.set_cons_zero, List.set_cons_succ]) | (apply mix_take; (first | exact want_0 rfl | exact want_b rfl rfl rfl (by with_reducible rfl)); intro wq hwq R hR; ((have hcc := (bcell hwq).1; (try simp only [World.size_alloc, World.size_setCell, World.size_drew, World.heap_drewN] at hcc)); go_simp; first | exact hR | (fail)); simp only [Act.put, List.setIfInBounds_toArray, List.set_cons_zero, List.set_cons_succ]))
          refine mix_alone (by kernel_rfl) (by first | exact want_0 rfl | exact want_b rfl rfl rfl (by with_reducible rfl)) (fun w1 hw1 K hK => ?_)
          obtain ⟨hcw1, hfw1⟩ := bcell hw1
          have hzw1 := bsize hw1
          (try simp only [World.size_alloc, World.size_setCell, World.size_drew, World.heap_drewN] at hcw1 hfw1 hzw1)
          (try have l0w1 : w.heap.size ≤ w1.heap.size := by omega)
          (try have l1w1 : w.heap.size < w1.heap.size := by omega)
          (try have l2w1 : w.heap.size + 1 < w1.heap.size := by omega)
          go_simp
          refine hK _ _ (Bel.bel (B := _) ?_) ?_
          · (repeat (first | with_reducible assumption | with_reducible exact Bel.refl _ | with_reducible refine Bel.alloc ?_ _ | with_reducible refine Bel.drewN ?_ _ | with_reducible refine Bel.drew ?_ | (with_reducible refine Bel.setCell0 ?_ ?_ _; rotate_left; (first | omega | (simp; done) | (simp; omega))) | (with_reducible refine Bel.setCell ?_ (p := _) ?_ _; rotate_left; (first | (simp; done) | omega | (simp; omega))) | refine Bel.call ?_ (by assumption) | (refine EX.bel ?_ (by assumption) ?_; rotate_left; (first | omega | (simp; omega)))))
          clear hK K
          repeat (first | ((first | refine mix_skip_t rfl rfl rfl (by with_reducible rfl) ?_ | refine mix_skip_f rfl rfl rfl (by with_reducible rfl) ?_ | refine mix_skip_u rfl rfl rfl (by with_reducible rfl) ?_); simp only [Act.put, List.setIfInBounds_toArray, List.set_cons_zero, List.set_cons_succ]) | (apply mix_take; (first | exact want_0 rfl | exact want_b rfl rfl rfl (by with_reducible rfl)); intro wq hwq R hR; ((have hcc := (bcell hwq).1; (try simp only [World.size_alloc, World.size_setCell, World.size_drew, World.heap_drewN] at hcc)); go_simp; first | exact hR | (first | (go_at_call 41; refine mcall (right1 a l _ hv.out ?_ ?_) hR; go_simp; go_simp) | (go_at_call 42; exact mcall_same (mask_any _ _ g1 g2) hR))); simp only [Act.put, List.setIfInBounds_toArray, List.set_cons_zero, List.set_cons_succ]))
          refine mix_nil ?_
          intro w2 hw2
          obtain ⟨hcw2, hfw2⟩ := bcell hw2
          have hzw2 := bsize hw2
          (try simp only [World.size_alloc, World.size_setCell, World.size_drew, World.heap_drewN] at hcw2 hfw2 hzw2)
          go_wp2_with fail
          go_ret
          refine ⟨rfl, Bel.bel (B := _) ?_⟩
          (repeat (first | with_reducible assumption | with_reducible exact Bel.refl _ | with_reducible refine Bel.alloc ?_ _ | with_reducible refine Bel.drewN ?_ _ | with_reducible refine Bel.drew ?_ | (with_reducible refine Bel.setCell0 ?_ ?_ _; rotate_left; (first | omega | (simp; done) | (simp; omega))) | (with_reducible refine Bel.setCell ?_ (p := _) ?_ _; rotate_left; (first | (simp; done) | omega | (simp; omega))) | refine Bel.call ?_ (by assumption) | (refine EX.bel ?_ (by assumption) ?_; rotate_left; (first | omega | (simp; omega)))))
      · have hs : holdP a l x = false := by simp [holdP, h1]
        rw [hs]
        have h0I : decide (0 ≤ x) = true := by simp [h0]
        have h1I : decide (x ≤ 65535) = false := by simp [h1]
        clear hA hs h1
        go_enter Try.func23, Try.ntmps23
        go_wp2_with fail
        refine region_mix (by kernel_rfl) (by kernel_rfl) (fun _ _ d _ _ h => by cases d <;> exact h) ?_
        repeat (first | ((first | refine mix_skip_t rfl rfl rfl (by with_reducible rfl) ?_ | refine mix_skip_f rfl rfl rfl (by with_reducible rfl) ?_ | refine mix_skip_u rfl rfl rfl (by with_reducible rfl) ?_); simp only [Act.put, List.setIfInBounds_toArray, List.set_cons_zero, List.set_cons_succ]) | (apply mix_take; (first | exact want_0 rfl | exact want_b rfl rfl rfl (by with_reducible rfl)); intro wq hwq R hR; ((have hcc := (bcell hwq).1; (try simp only [World.size_alloc, World.size_setCell, World.size_drew, World.heap_drewN] at hcc)); go_simp; first | exact hR | (fail)); simp only [Act.put, List.setIfInBounds_toArray, List.set_cons_zero, List.set_cons_succ]))
        refine mix_alone (by kernel_rfl) (by first | exact want_0 rfl | exact want_b rfl rfl rfl (by with_reducible rfl)) (fun w1 hw1 K hK => ?_)
        obtain ⟨hcw1, hfw1⟩ := bcell hw1
        have hzw1 := bsize hw1
        (try simp only [World.size_alloc, World.size_setCell, World.size_drew, World.heap_drewN] at hcw1 hfw1 hzw1)
        (try have l0w1 : w.heap.size ≤ w1.heap.size := by omega)
        (try have l1w1 : w.heap.size < w1.heap.size := by omega)
        (try have l2w1 : w.heap.size + 1 < w1.heap.size := by omega)
        go_simp
        refine hK _ _ (Bel.bel (B := _) ?_) ?_
        · (repeat (first | with_reducible assumption | with_reducible exact Bel.refl _ | with_reducible refine Bel.alloc ?_ _ | with_reducible refine Bel.drewN ?_ _ | with_reducible refine Bel.drew ?_ | (with_reducible refine Bel.setCell0 ?_ ?_ _; rotate_left; (first | omega | (simp; done) | (simp; omega))) | (with_reducible refine Bel.setCell ?_ (p := _) ?_ _; rotate_left; (first | (simp; done) | omega | (simp; omega))) | refine Bel.call ?_ (by assumption) | (refine EX.bel ?_ (by assumption) ?_; rotate_left; (first | omega | (simp; omega)))))
        clear hK K
        repeat (first | ((first | refine mix_skip_t rfl rfl rfl (by with_reducible rfl) ?_ | refine mix_skip_f rfl rfl rfl (by with_reducible rfl) ?_ | refine mix_skip_u rfl rfl rfl (by with_reducible rfl) ?_); simp only [Act.put, List.setIfInBounds_toArray, List.set_cons_zero, List.set_cons_succ]) | (apply mix_take; (first | exact want_0 rfl | exact want_b rfl rfl rfl (by with_reducible rfl)); intro wq hwq R hR; ((have hcc := (bcell hwq).1; (try simp only [World.size_alloc, World.size_setCell, World.size_drew, World.heap_drewN] at hcc)); go_simp; first | exact hR | ((go_at_call 41; refine mcall (right1 a l _ hv.out ?_ ?_) hR; go_simp; go_simp))); simp only [Act.put, List.setIfInBounds_toArray, List.set_cons_zero, List.set_cons_succ]))
        refine mix_nil ?_
        intro w2 hw2
        obtain ⟨hcw2, hfw2⟩ := bcell hw2
        have hzw2 := bsize hw2
        (try simp only [World.size_alloc, World.size_setCell, World.size_drew, World.heap_drewN] at hcw2 hfw2 hzw2)
        go_wp2_with fail
        go_ret
        refine ⟨rfl, Bel.bel (B := _) ?_⟩
        (repeat (first | with_reducible assumption | with_reducible exact Bel.refl _ | with_reducible refine Bel.alloc ?_ _ | with_reducible refine Bel.drewN ?_ _ | with_reducible refine Bel.drew ?_ | (with_reducible refine Bel.setCell0 ?_ ?_ _; rotate_left; (first | omega | (simp; done) | (simp; omega))) | (with_reducible refine Bel.setCell ?_ (p := _) ?_ _; rotate_left; (first | (simp; done) | omega | (simp; omega))) | refine Bel.call ?_ (by assumption) | (refine EX.bel ?_ (by assumption) ?_; rotate_left; (first | omega | (simp; omega)))))
    · have hs : holdP a l x = false := by simp [holdP, h0]
      rw [hs]
      have h0I : decide (0 ≤ x) = false := by simp [h0]
      clear hA hs h0
      go_enter Try.func23, Try.ntmps23
      go_wp2_with fail
      refine region_mix (by kernel_rfl) (by kernel_rfl) (fun _ _ d _ _ h => by cases d <;> exact h) ?_
      repeat (first | ((first | refine mix_skip_t rfl rfl rfl (by with_reducible rfl) ?_ | refine mix_skip_f rfl rfl rfl (by with_reducible rfl) ?_ | refine mix_skip_u rfl rfl rfl (by with_reducible rfl) ?_); simp only [Act.put, List.setIfInBounds_toArray, List.set_cons_zero, List.set_cons_succ]) | (apply mix_take; (first | exact want_0 rfl | exact want_b rfl rfl rfl (by with_reducible rfl)); intro wq hwq R hR; ((have hcc := (bcell hwq).1; (try simp only [World.size_alloc, World.size_setCell, World.size_drew, World.heap_drewN] at hcc)); go_simp; first | exact hR | (fail)); simp only [Act.put, List.setIfInBounds_toArray, List.set_cons_zero, List.set_cons_succ]))
      refine mix_alone (by kernel_rfl) (by first | exact want_0 rfl | exact want_b rfl rfl rfl (by with_reducible rfl)) (fun w1 hw1 K hK => ?_)
      obtain ⟨hcw1, hfw1⟩ := bcell hw1
      have hzw1 := bsize hw1
      (try simp only [World.size_alloc, World.size_setCell, World.size_drew, World.heap_drewN] at hcw1 hfw1 hzw1)
      (try have l0w1 : w.heap.size ≤ w1.heap.size := by omega)
      (try have l1w1 : w.heap.size < w1.heap.size := by omega)
      (try have l2w1 : w.heap.size + 1 < w1.heap.size := by omega)
      go_simp
      refine hK _ _ (Bel.bel (B := _) ?_) ?_
      · (repeat (first | with_reducible assumption | with_reducible exact Bel.refl _ | with_reducible refine Bel.alloc ?_ _ | with_reducible refine Bel.drewN ?_ _ | with_reducible refine Bel.drew ?_ | (with_reducible refine Bel.setCell0 ?_ ?_ _; rotate_left; (first | omega | (simp; done) | (simp; omega))) | (with_reducible refine Bel.setCell ?_ (p := _) ?_ _; rotate_left; (first | (simp; done) | omega | (simp; omega))) | refine Bel.call ?_ (by assumption) | (refine EX.bel ?_ (by assumption) ?_; rotate_left; (first | omega | (simp; omega)))))
      clear hK K
      repeat (first | ((first | refine mix_skip_t rfl rfl rfl (by with_reducible rfl) ?_ | refine mix_skip_f rfl rfl rfl (by with_reducible rfl) ?_ | refine mix_skip_u rfl rfl rfl (by with_reducible rfl) ?_); simp only [Act.put, List.setIfInBounds_toArray, List.set_cons_zero, List.set_cons_succ]) | (apply mix_take; (first | exact want_0 rfl | exact want_b rfl rfl rfl (by with_reducible rfl)); intro wq hwq R hR; ((have hcc := (bcell hwq).1; (try simp only [World.size_alloc, World.size_setCell, World.size_drew, World.heap_drewN] at hcc)); go_simp; first | exact hR | ((go_at_call 41; refine mcall (right1 a l _ hv.out ?_ ?_) hR; go_simp; go_simp))); simp only [Act.put, List.setIfInBounds_toArray, List.set_cons_zero, List.set_cons_succ]))
      refine mix_nil ?_
      intro w2 hw2
      obtain ⟨hcw2, hfw2⟩ := bcell hw2
      have hzw2 := bsize hw2
      (try simp only [World.size_alloc, World.size_setCell, World.size_drew, World.heap_drewN] at hcw2 hfw2 hzw2)
      go_wp2_with fail
      go_ret
      refine ⟨rfl, Bel.bel (B := _) ?_⟩
      (repeat (first | with_reducible assumption | with_reducible exact Bel.refl _ | with_reducible refine Bel.alloc ?_ _ | with_reducible refine Bel.drewN ?_ _ | with_reducible refine Bel.drew ?_ | (with_reducible refine Bel.setCell0 ?_ ?_ _; rotate_left; (first | omega | (simp; done) | (simp; omega))) | (with_reducible refine Bel.setCell ?_ (p := _) ?_ _; rotate_left; (first | (simp; done) | omega | (simp; omega))) | refine Bel.call ?_ (by assumption) | (refine EX.bel ?_ (by assumption) ?_; rotate_left; (first | omega | (simp; omega)))))
def meetP (a l b m : Int) : Bool := insP a l b m || insP b m a l
set_option maxHeartbeats 1000000 in
theorem meets_any (a l b m : Int) (w : World) :
    Calls Try.prog 50 #[.agg #[.int .i64 a, .int .i64 l], .agg #[.int .i64 b, .int .i64 m]] w fun e w' => e = .returned (.bool (meetP a l b m)) ∧ Ext w w' := by
  unfold meetP
  cases hA : insP a l b m
  case true =>
    have hc := inside_any a l b m
    rw [hA] at hc
    replace hc := Lib.hid hc
    clear hA
    go_enter Try.func50, Try.ntmps50
    go_wp2_with fail
    refine (hc.out _).mono ?_
    rintro e w1 ⟨rfl, hw1⟩
    obtain ⟨hcw1, hfw1⟩ := bcell hw1
    have hzw1 := bsize hw1
    (try simp only [World.size_alloc, World.size_setCell, World.size_drew, World.heap_drewN] at hcw1 hfw1 hzw1)
    go_wp2_with fail
    go_ret
    refine ⟨rfl, Bel.bel (B := _) ?_⟩
    (repeat (first | with_reducible assumption | with_reducible exact Bel.refl _ | with_reducible refine Bel.alloc ?_ _ | with_reducible refine Bel.drewN ?_ _ | with_reducible refine Bel.drew ?_ | (with_reducible refine Bel.setCell0 ?_ ?_ _; rotate_left; (first | omega | (simp; done) | (simp; omega))) | (with_reducible refine Bel.setCell ?_ (p := _) ?_ _; rotate_left; (first | (simp; done) | omega | (simp; omega))) | refine Bel.call ?_ (by assumption) | (refine EX.bel ?_ (by assumption) ?_; rotate_left; (first | omega | (simp; omega)))))
  case false =>
    have hc := inside_any a l b m
    rw [hA] at hc
    replace hc := Lib.hid hc
    clear hA
    obtain ⟨r, hr⟩ : ∃ r, r = insP b m a l := ⟨_, rfl⟩
    have hd := inside_any b m a l
    rw [← hr] at hd ⊢
    clear hr
    replace hd := Lib.hid hd
    go_enter Try.func50, Try.ntmps50
    go_wp2_with fail
    refine (hc.out _).mono ?_
    rintro e w1 ⟨rfl, hw1⟩
    obtain ⟨hcw1, hfw1⟩ := bcell hw1
    have hzw1 := bsize hw1
    (try simp only [World.size_alloc, World.size_setCell, World.size_drew, World.heap_drewN] at hcw1 hfw1 hzw1)
    go_wp2_with fail
    refine (hd.out _).mono ?_
    rintro e w2 ⟨rfl, hw2⟩
    obtain ⟨hcw2, hfw2⟩ := bcell hw2
    have hzw2 := bsize hw2
    (try simp only [World.size_alloc, World.size_setCell, World.size_drew, World.heap_drewN] at hcw2 hfw2 hzw2)
    go_wp2_with fail
    go_ret
    refine ⟨rfl, Bel.bel (B := _) ?_⟩
    (repeat (first | with_reducible assumption | with_reducible exact Bel.refl _ | with_reducible refine Bel.alloc ?_ _ | with_reducible refine Bel.drewN ?_ _ | with_reducible refine Bel.drew ?_ | (with_reducible refine Bel.setCell0 ?_ ?_ _; rotate_left; (first | omega | (simp; done) | (simp; omega))) | (with_reducible refine Bel.setCell ?_ (p := _) ?_ _; rotate_left; (first | (simp; done) | omega | (simp; omega))) | refine Bel.call ?_ (by assumption) | (refine EX.bel ?_ (by assumption) ?_; rotate_left; (first | omega | (simp; omega)))))
end Go.Proofs.Ytflbpkgnadjokaa
namespace Go.Proofs.Ytflbpkgnadjokaa
open Go Go.RowKit
/-- All that was there is as it was, but for the blocks from lo on, ahead of hi: they are as wide as they were. -/
structure EX (lo hi : Nat) (w w' : World) : Prop where
  os : w'.os = w.os
  tape : w'.tape = w.tape
  output : w'.output = w.output
  size : w.heap.size ≤ w'.heap.size
  block : ∀ b, b < w.heap.size → (b < lo ∨ hi ≤ b) → w'.heap[b]? = w.heap[b]?
  there : ∀ b o, b < w.heap.size → (w.cell? ⟨b, o, none⟩).isSome = true → (w'.cell? ⟨b, o, none⟩).isSome = true
  free : ∀ b o, b < w.heap.size → w'.frozen? ⟨b, o, none⟩ = w.frozen? ⟨b, o, none⟩
theorem EX.refl {lo hi : Nat} (w : World) : EX lo hi w w := ⟨rfl, rfl, rfl, Nat.le_refl _, fun _ _ _ => rfl, fun _ _ _ h => h, fun _ _ _ => rfl⟩
theorem EX.trans {lo hi : Nat} {a b c : World} (h : EX lo hi a b) (k : EX lo hi b c) : EX lo hi a c :=
  ⟨k.os.trans h.os, k.tape.trans h.tape, k.output.trans h.output, Nat.le_trans h.size k.size, fun i hi hx => (k.block i (Nat.lt_of_lt_of_le hi h.size) hx).trans (h.block i hi hx),
   fun i o hi hs => k.there i o (Nat.lt_of_lt_of_le hi h.size) (h.there i o hi hs), fun i o hi => (k.free i o (Nat.lt_of_lt_of_le hi h.size)).trans (h.free i o hi)⟩
theorem EX.of {lo hi : Nat} {w w' : World} (h : Ext w w') : EX lo hi w w' :=
  ⟨h.os, h.tape, h.output, h.size, fun b hb _ => h.block b hb, fun b o hb hs => by rw [(bcell h).1 b o hb]; exact hs, fun b o hb => (bcell h).2 b o hb⟩
theorem EX.mono {lo hi lo' hi' : Nat} {w w' : World} (h1 : lo ≤ lo') (h2 : hi' ≤ hi) (h : EX lo' hi' w w') : EX lo hi w w' :=
  ⟨h.os, h.tape, h.output, h.size, fun b hb hx => h.block b hb (by omega), h.there, h.free⟩
theorem EX.cell {lo hi : Nat} {w w' : World} (h : EX lo hi w w') {b o : Nat} (hb : b < w.heap.size) (hx : b < lo ∨ hi ≤ b) : w'.cell? ⟨b, o, none⟩ = w.cell? ⟨b, o, none⟩ :=
  World.cell?_of_block (w := w) (h.block b hb hx)
theorem EX.setCell {lo hi : Nat} {w w' : World} (h : EX lo hi w w') {b o : Nat} (h1 : lo ≤ b) (h2 : b < hi) (v : Value) : EX lo hi w (w'.setCell ⟨b, o, none⟩ v) := by
  refine ⟨h.os, h.tape, h.output, by rw [World.size_setCell]; exact h.size, fun i hi hx => (block_setCell_ne v (by show b ≠ i; omega)).trans (h.block i hi hx), fun i j hi hs => ?_, fun i j hi => ?_⟩
  · have h3 := h.there i j hi hs
    obtain ⟨u, hu⟩ := Option.isSome_iff_exists.1 h3
    obtain ⟨u', hu'⟩ := cell?_setCell_some (w := w') (p := ⟨b, o, none⟩) (x := v) (q := ⟨i, j, none⟩) (v := u) hu
    rw [hu']; rfl
  · rw [World.frozen?_setCell]; exact h.free i j hi
theorem EX.drew {lo hi : Nat} {w w' : World} (h : EX lo hi w w') : EX lo hi w w'.drew := h.trans (EX.of ((Below.refl _ _).drew))
theorem EX.bel {lo hi B : Nat} {a w w' : World} (h : Bel B a w) (hx : EX lo hi w w') (hB : B ≤ lo) : Bel B a w' :=
  ⟨h.bel.trans ⟨hx.os, hx.tape, hx.output, hx.size, fun k hk => hx.block k (Nat.lt_of_lt_of_le hk h.le) (.inl (Nat.lt_of_lt_of_le hk hB))⟩, Nat.le_trans h.le hx.size⟩
theorem EX.some {lo hi : Nat} {w w' : World} (h : EX lo hi w w') {b o : Nat} {v : Value} (hc : w.cell? ⟨b, o, none⟩ = some v) : ∃ u, w'.cell? ⟨b, o, none⟩ = some u := by
  have := h.there b o (lt_of_cell hc) (by rw [hc]; rfl)
  exact Option.isSome_iff_exists.1 this
theorem EX.lo {lo hi : Nat} {w w' : World} (h : EX lo hi w w') (hl : lo ≤ w.heap.size) : ∀ b o, b < lo → w'.cell? ⟨b, o, none⟩ = w.cell? ⟨b, o, none⟩ := fun b o hb => h.cell (by omega) (.inl hb)
theorem EX.hi {lo hi : Nat} {w w' : World} (h : EX lo hi w w') : ∀ b o, hi ≤ b → b < w.heap.size → w'.cell? ⟨b, o, none⟩ = w.cell? ⟨b, o, none⟩ := fun b o hb h2 => h.cell h2 (.inr hb)
section
variable {P : Program} {ops : Array Oper} {Q : Exit → Act → World → Prop}
/-- Whatever order is picked. -/
def GX (P : Program) (ops : Array Oper) (Q : Exit → Act → World → Prop) : Nat → Array Bool → Act → Nat → Nat → World → Prop
  | 0, listed, a, lo, hi, W => Region.ready .any ops listed = [] ∧ ∀ w, EX lo hi W w → Q .normal a w
  | fuel + 1, listed, a, lo, hi, W => ∀ w, EX lo hi W w → (Region.ready .any ops listed = [] → Q .normal a w) ∧
      ∀ i ∈ Region.ready .any ops listed, wpOp P ops Q i (fun a' w' => EX lo hi w w' ∧ ∃ lo' hi', lo ≤ lo' ∧ hi' ≤ hi ∧ GX P ops Q fuel (listed.setIfInBounds i true) a' lo' hi' w') a w
theorem GX.world : ∀ {fuel : Nat} {listed : Array Bool} {a : Act} {lo hi : Nat} {W W' : World}, EX lo hi W W' → GX P ops Q fuel listed a lo hi W → GX P ops Q fuel listed a lo hi W'
  | 0, _, _, _, _, _, _, hx, h => ⟨h.1, fun w hw => h.2 w (hx.trans hw)⟩
  | _ + 1, _, _, _, _, _, _, hx, h => fun w hw => h w (hx.trans hw)
theorem GX.any : ∀ {fuel : Nat} {listed : Array Bool} {a : Act} {lo hi : Nat} {W : World}, GX P ops Q fuel listed a lo hi W → wpAny P .any ops Q fuel listed a W
  | 0, _, _, _, _, _, h => ⟨h.1, h.2 _ (EX.refl _)⟩
  | _ + 1, _, _, _, _, W, h => ⟨(h W (EX.refl _)).1, fun i hi => wpOp_mono (fun _ _ ⟨_, _, _, _, _, h'⟩ => GX.any h') ((h W (EX.refl _)).2 i hi)⟩
/-- In every world that extends W operation o yields v, and at most extends it. -/
def QX (P : Program) (ops : Array Oper) (lo hi : Nat) (W : World) (o : Oper) (v : Value) (a : Act) : Prop :=
  (Region.wanted o (yielded ops a.tmps) = true ∧ ∀ w, EX lo hi W w → o.quietAt P a (Ext w) w v) ∨
  (Region.wanted o (yielded ops a.tmps) = false ∧ v = undef)
theorem QX.world {lo hi lo' hi' : Nat} {W W' : World} {o : Oper} {v : Value} {a : Act} (h1 : lo ≤ lo') (h2 : hi' ≤ hi) (hx : EX lo hi W W') (h : QX P ops lo hi W o v a) : QX P ops lo' hi' W' o v a :=
  h.imp (fun ⟨g1, g2⟩ => ⟨g1, fun w hw => g2 w (hx.trans (hw.mono h1 h2))⟩) id
theorem QX.of_same {lo hi : Nat} {W : World} {o : Oper} {v : Value} {a a' : Act} (hy : QX P ops lo hi W o v a) (he : execOp a'.eval o = execOp a.eval o)
    (hw : Region.wanted o (yielded ops a'.tmps) = Region.wanted o (yielded ops a.tmps)) : QX P ops lo hi W o v a' := by
  unfold QX Oper.quietAt at *
  rw [he, hw]
  exact hy
theorem QX.wpOp {lo hi : Nat} {W : World} {i : Nat} {o : Oper} {v : Value} {a : Act} (hi' : ops[i]? = some o) (hy : QX P ops lo hi W o v a) {K : Act → World → Prop} {w : World} (hw : EX lo hi W w) (h : ∀ w', Ext w w' → K (a.put o.dst v) w') : wpOp P ops Q i K a w := by
  unfold Go.wpOp
  simp only [hi']
  rcases hy with ⟨hwa, hv⟩ | ⟨hwa, rfl⟩
  · simp only [hwa, if_true]
    left
    have h3 := hv w hw
    unfold Oper.quietAt at h3
    unfold Oper.wp
    generalize (execOp a.eval o).run P w = r at *
    cases r with
    | ok n w' =>
      cases n <;> simp only [Oper.quietUpon] at h3 <;> simp only [Oper.upon]
      case value u =>
        obtain ⟨e1, e2⟩ := h3
        rw [e1, e2]
        exact h _ (Below.refl _ _)
      case skip =>
        obtain ⟨e1, e2⟩ := h3
        rw [e1, ← e2]
        exact h _ (Below.refl _ _)
      case enter f args =>
        obtain ⟨e1, hc⟩ := h3
        rw [e1]
        exact hc.mono fun e w'' ⟨he, hw''⟩ => by subst he; exact h _ hw''
    | halt x w' => simp only [Oper.quietUpon] at h3
  · simp only [hwa, Bool.false_eq_true, if_false]
    exact h w (Below.refl _ _)
theorem wpOp_putX {lo hi : Nat} {W : World} {j : Nat} {oi oj : Oper} {v : Value} (hj : ops[j]? = some oj) (hap : oi.apart ops oj = true)
    (hsi : ∀ cs b, oi.op ≠ .select cs b) (hsj : ∀ cs b, oj.op ≠ .select cs b)
    (hQ : ∀ c a w, Q (.panic c) (a.put oi.dst v) w → Q (.panic c) a w) {K : Act → World → Prop} {a : Act} {w : World}
    (hy : QX P ops lo hi W oi v a) (h : wpOp P ops Q j K (a.put oi.dst v) w) :
    wpOp P ops Q j (fun a' w' => QX P ops lo hi W oi v a' ∧ K (a'.put oi.dst v) w') a w := by
  obtain ⟨h1, h2, h3⟩ := Oper.apart_spec hap
  have keep : ∀ (a : Act), QX P ops lo hi W oi v a → ∀ u, QX P ops lo hi W oi v (a.put oj.dst u) := fun a hy u =>
    hy.of_same (execOp_put oi hsi a oj.dst u h3) (wanted_put oi a oj.dst u h3)
  have keepD : ∀ d, QX P ops lo hi W oi v { a with defers := d :: a.defers } := fun d => hy.of_same rfl rfl
  unfold wpOp at *
  simp only [hj] at *
  rw [wanted_put oj a oi.dst v h1] at h
  split
  · rename_i hw
    simp only [hw, if_true] at h
    rcases h with h | ⟨hasks, hlets⟩
    case inr => exact .inr ⟨by unfold Oper.asks at *; rw [execOp_put oj hsj a oi.dst v h1] at hasks; exact hasks, hlets⟩
    refine .inl ?_
    unfold Oper.wp at *
    rw [execOp_put oj hsj a oi.dst v h1] at h
    generalize (execOp a.eval oj).run P w = r at *
    cases r with
    | ok n w' =>
      cases n <;> simp only [Oper.upon] at h ⊢
      case value u => exact ⟨keep a hy u, by rw [← Act.put_comm a v u h2]; exact h⟩
      case skip => exact ⟨keep a hy _, by rw [← Act.put_comm a v undef h2]; exact h⟩
      case defer d =>
        refine ⟨keep _ (keepD d) _, ?_⟩
        rw [← Act.put_comm _ v undef h2, ← Act.put_defers]
        exact h
      case enter f args =>
        refine Calls.mono h fun e w'' he => ?_
        cases e with
        | returned u => exact ⟨keep a hy u, by rw [← Act.put_comm a v u h2]; exact he⟩
        | panicked c => exact hQ _ _ _ he
        | outgrown => exact he
      case row row args => exact Rows.mono h fun u w'' he => ⟨keep a hy u, by rw [← Act.put_comm a v u h2]; exact he⟩
    | halt x w' =>
      cases x <;> simp only [Oper.upon] at h ⊢
      case panic u => exact hQ _ _ _ h
  · rename_i hw
    simp only [hw] at h
    exact ⟨keep a hy _, by rw [← Act.put_comm a v undef h2]; exact h⟩
theorem GX_first {i : Nat} {oi : Oper} {v : Value} (hio : ops[i]? = some oi) (hsel : ∀ (j : Nat) (o : Oper) cs b, ops[j]? = some o → o.op ≠ .select cs b)
    (hQ : ∀ c a w, Q (.panic c) (a.put oi.dst v) w → Q (.panic c) a w) :
    ∀ (fuel : Nat) (listed : Array Bool) (a : Act) (lo hi : Nat) (W : World),
      (∀ j oj, ops[j]? = some oj → j ≠ i → listed.getD j true = false → (∀ e ∈ oj.after, Region.binds .any e = true → e.on ≠ i) → oi.apart ops oj = true) →
      i ∈ Region.ready .any ops listed → QX P ops lo hi W oi v a →
      GX P ops Q fuel (listed.setIfInBounds i true) (a.put oi.dst v) lo hi W → GX P ops Q (fuel + 1) listed a lo hi W := by
  intro fuel
  induction fuel with
  | zero =>
    intro listed a lo hi W _ hr hy H w hw
    refine ⟨fun h => (by rw [h] at hr; cases hr), fun j hj => ?_⟩
    by_cases hji : j = i
    · subst hji; exact hy.wpOp hio hw fun w' hw' => ⟨EX.of hw', lo, hi, Nat.le_refl _, Nat.le_refl _, H.world (hw.trans (EX.of hw'))⟩
    · have := ready_mono hj hji
      rw [H.1] at this
      cases this
  | succ fuel ih =>
    intro listed a lo hi W hfree hr hy H w hw
    refine ⟨fun h => (by rw [h] at hr; cases hr), fun j hj => ?_⟩
    by_cases hji : j = i
    · subst hji; exact hy.wpOp hio hw fun w' hw' => ⟨EX.of hw', lo, hi, Nat.le_refl _, Nat.le_refl _, H.world (hw.trans (EX.of hw'))⟩
    · have h1 := (H w hw).2 j (ready_mono hj hji)
      obtain ⟨hjun, oj, hoj, hall⟩ := mem_ready.1 hj
      have hnot : ∀ e ∈ oj.after, Region.binds .any e = true → e.on ≠ i := fun e he hb heq => by
        have h1 := hall e he hb
        have h0 := (mem_ready.1 hr).1
        rw [heq] at h1
        rcases Nat.lt_or_ge i listed.size with h' | h'
        · simp [h'] at h0 h1; rw [h0] at h1; cases h1
        · simp [Array.getElem?_eq_none h'] at h1
      have h2 := wpOp_putX hoj (hfree j oj hoj hji hjun hnot) (fun cs b => hsel i oi cs b hio) (fun cs b => hsel j oj cs b hoj) hQ (hy.world (Nat.le_refl _) (Nat.le_refl _) hw) h1
      have hfree' : ∀ k ok, ops[k]? = some ok → k ≠ i → (listed.setIfInBounds j true).getD k true = false →
          (∀ e ∈ ok.after, Region.binds .any e = true → e.on ≠ i) → oi.apart ops ok = true := fun k ok hk hki hun hno => by
        refine hfree k ok hk hki ?_ hno
        by_cases hjk : j = k
        · subst hjk; exact hjun
        · rw [getD_set_ne true hjk] at hun; exact hun
      refine wpOp_mono (fun a' w' ⟨h3, h4, lo', hi', h5, h6, h7⟩ => ⟨h4, lo', hi', h5, h6, ih (listed.setIfInBounds j true) a' lo' hi' w' hfree' (ready_mono hr (Ne.symm hji)) (h3.world h5 h6 h4) ?_⟩) h2
      rw [Array.setIfInBounds_comm _ _ hji]
      exact h7
/-- The walk in the order of the text. -/
def wpMiy (P : Program) (ops : Array Oper) (Q : Exit → Act → World → Prop) : List Oper → Nat → Array Bool → Act → Nat → Nat → World → Prop
  | [], _, _, a, lo, hi, W => ∀ w, EX lo hi W w → Q .normal a w
  | o :: rest, k, listed, a, lo, hi, W =>
    (∃ v, QX P ops lo hi W o v a ∧ wpMiy P ops Q rest (k + 1) (listed.setIfInBounds k true) (a.put o.dst v) lo hi W) ∨
    (Region.ready .any ops listed = [k] ∧ Region.wanted o (yielded ops a.tmps) = true ∧ ∀ w, EX lo hi W w → o.wp P a w (fun a' w' => EX lo hi w w' ∧ ∃ lo' hi', lo ≤ lo' ∧ hi' ≤ hi ∧ wpMiy P ops Q rest (k + 1) (listed.setIfInBounds k true) a' lo' hi' w') Q)
theorem miy_sound (hs : Region.noSelect ops = true) (hQ : ∀ c a d v w, Q (.panic c) (a.put d v) w → Q (.panic c) a w) : ∀ (l : List Oper) (k : Nat) (listed : Array Bool) (a : Act) (lo hi : Nat) (W : World), (∀ j, l[j]? = ops[k + j]?) →
    Region.lexFrom .any ops l.length k listed = true → wpMiy P ops Q l k listed a lo hi W → GX P ops Q l.length listed a lo hi W
  | [], _, _, _, _, _, _, _, hB, h => ⟨by simpa [Region.lexFrom] using hB, h⟩
  | o :: l, k, listed, a, lo, hi, W, hl, hB, h => by
    have h0 : ops[k]? = some o := by simpa using (hl 0).symm
    simp only [List.length_cons, Region.lexFrom, Bool.and_eq_true] at hB
    obtain ⟨⟨hr, hf⟩, hB'⟩ := hB
    have hl' : ∀ j, l[j]? = ops[k + 1 + j]? := fun j => by have := hl (j + 1); simpa [Nat.add_assoc, Nat.add_comm 1 j] using this
    rcases h with ⟨v, hy, hK⟩ | ⟨hone, hwa, hK⟩
    · exact GX_first h0 (Region.noSelect_spec hs) (fun c a w => hQ c a _ _ w) l.length listed a lo hi W (Region.free_spec h0 hf) (by simpa using hr) hy (miy_sound hs hQ l (k + 1) _ _ _ _ _ hl' hB' hK)
    · intro w hw
      refine ⟨fun h => by rw [hone] at h; simp at h, fun i hi' => ?_⟩
      rw [hone] at hi'
      obtain rfl : i = k := by simpa using hi'
      unfold wpOp
      simp only [h0, hwa, if_true]
      left
      exact Oper.wp_mono (fun a' w' ⟨h1, lo', hi', h2, h3, h4⟩ => ⟨h1, lo', hi', h2, h3, miy_sound hs hQ l (i + 1) _ _ _ _ _ hl' hB' h4⟩) (hK w hw)
theorem region_miy {id : Nat} {a : Act} {w : World} {l : List Oper} (lo hi : Nat) (hm : P.follows .mixedOrders = true) (hB : Region.lexB .any l.toArray = true) (hQ : ∀ c a d v w, Q (.panic c) (a.put d v) w → Q (.panic c) a w)
    (h : wpMiy P l.toArray Q l 0 (Array.replicate l.length false) a lo hi w) : (Code.region id l.toArray true).wp P Q a w := by
  simp only [Region.lexB, Bool.and_eq_true] at hB
  refine wp_region_any hm ?_
  have h2 := miy_sound hB.1 hQ l 0 (Array.replicate l.length false) a lo hi w (by simp) (by simpa using hB.2) h
  have h3 := (h2.world (EX.of ((Below.refl _ _).drew : Ext w w.drew))).any
  simpa using h3
section
variable {o : Oper} {rest : List Oper} {k lo hi : Nat} {listed : Array Bool} {a : Act} {W : World}
theorem miy_nil (h : ∀ w, EX lo hi W w → Q .normal a w) : wpMiy P ops Q [] k listed a lo hi W := h
theorem miy_skip (hw : Region.wanted o (yielded ops a.tmps) = false) (hn : wpMiy P ops Q rest (k + 1) (listed.setIfInBounds k true) (a.put o.dst undef) lo hi W) : wpMiy P ops Q (o :: rest) k listed a lo hi W :=
  .inl ⟨undef, .inr ⟨hw, rfl⟩, hn⟩
theorem miy_skip_t {j d : Nat} {v : Value} (hg : o.guard = some (j, true)) (hd : (ops[j]?).bind (·.dst) = some d) (hv : a.tmps.toList[d]? = some v) (hb : v = .bool false) (hn : wpMiy P ops Q rest (k + 1) (listed.setIfInBounds k true) (a.put o.dst undef) lo hi W) : wpMiy P ops Q (o :: rest) k listed a lo hi W :=
  miy_skip (by simp [Region.wanted, hg, yields_bool hd hv hb]) hn
theorem miy_skip_f {j d : Nat} {v : Value} (hg : o.guard = some (j, false)) (hd : (ops[j]?).bind (·.dst) = some d) (hv : a.tmps.toList[d]? = some v) (hb : v = .bool true) (hn : wpMiy P ops Q rest (k + 1) (listed.setIfInBounds k true) (a.put o.dst undef) lo hi W) : wpMiy P ops Q (o :: rest) k listed a lo hi W :=
  miy_skip (by simp [Region.wanted, hg, yields_bool hd hv hb]) hn
theorem miy_skip_u {j d : Nat} {v : Value} {b : Bool} (hg : o.guard = some (j, b)) (hd : (ops[j]?).bind (·.dst) = some d) (hv : a.tmps.toList[d]? = some v) (hb : v = undef) (hn : wpMiy P ops Q rest (k + 1) (listed.setIfInBounds k true) (a.put o.dst undef) lo hi W) : wpMiy P ops Q (o :: rest) k listed a lo hi W :=
  miy_skip (by simp [Region.wanted, hg, yields_undef hd hv hb]) hn
theorem miy_take {v : Value} (hw : Region.wanted o (yielded ops a.tmps) = true) (h : ∀ w, EX lo hi W w → ∀ R : Value → Prop, R v → qUp P w w R ((execOp a.eval o).run P w))
    (hn : wpMiy P ops Q rest (k + 1) (listed.setIfInBounds k true) (a.put o.dst v) lo hi W) : wpMiy P ops Q (o :: rest) k listed a lo hi W :=
  .inl ⟨v, .inl ⟨hw, fun w hw => qUp_quiet (h w hw)⟩, hn⟩
theorem miy_alone (hr : Region.ready .any ops listed = [k]) (hw : Region.wanted o (yielded ops a.tmps) = true)
    (h : ∀ w, EX lo hi W w → ∀ K : Act → World → Prop, (∀ a' w' lo' hi', lo ≤ lo' → hi' ≤ hi → EX lo hi w w' → wpMiy P ops Q rest (k + 1) (listed.setIfInBounds k true) a' lo' hi' w' → K a' w') → o.wp P a w K Q) : wpMiy P ops Q (o :: rest) k listed a lo hi W :=
  .inr ⟨hr, hw, fun w hw => h w hw _ fun _ _ lo' hi' g1 g2 h1 h2 => ⟨h1, lo', hi', g1, g2, h2⟩⟩
end
end
end Go.Proofs.Ytflbpkgnadjokaa
namespace Go.Proofs.Ytflbpkgnadjokaa
open Go Go.RowKit Go.Proofs
set_option maxRecDepth 100000
theorem or_szI (a l : Int) (h : rightB a l = true) (hl : l < 16) : bits .or .i64 a (msk (l + 1) + 1) = a + szI (l + 1) := by
  obtain ⟨g1, g2, g3, g4, g5⟩ := right_bd h
  obtain ⟨n, rfl⟩ := Int.eq_ofNat_of_zero_le g3
  have e1 : msk (l + 1) + 1 = ((2 ^ (16 - (l + 1)).toNat : Nat) : Int) := by simp [msk]
  have e2 : szI (l + 1) = ((2 ^ (16 - (l + 1)).toNat : Nat) : Int) := by simp [szI]
  obtain ⟨k, hk⟩ : ∃ k, k = (16 - (l + 1)).toNat := ⟨_, rfl⟩
  have e3 : (16 - l).toNat = k + 1 := by omega
  rw [e1, e2, ← hk]
  have hk15 : k ≤ 15 := by omega
  have hp : 2 ^ k ≤ 2 ^ 15 := Nat.pow_le_pow_right (by omega) hk15
  have g6 : n % 2 ^ (k + 1) = 0 := by
    unfold szI at g5
    rw [e3] at g5
    exact_mod_cast g5
  have hn : n = 2 ^ (k + 1) * (n / 2 ^ (k + 1)) := by have := Nat.div_add_mod n (2 ^ (k + 1)); omega
  have hor : n ||| 2 ^ k = n + 2 ^ k := by
    rw [hn]
    exact (Nat.two_pow_add_eq_or_of_lt (Nat.pow_lt_pow_right (by omega) (by omega)) _).symm
  show IntKind.i64.wrap ((BitVec.ofInt 64 (n : Int) ||| BitVec.ofInt 64 ((2 ^ k : Nat) : Int)).toNat : Int) = _
  rw [BitVec.toNat_or, ofInt_i64 n (by omega), ofInt_i64 _ (by omega), hor, IntKind.wrap_i64]
  omega
def zeroP : Value := .agg #[.int .i64 0, .int .i64 0]
def halvesV (a l : Int) : Value :=
  if chk a l = 0 then (if l = 16 then .tuple #[zeroP, zeroP, .int .i64 3] else .tuple #[.agg #[.int .i64 a, .int .i64 (l + 1)], .agg #[.int .i64 (a + szI (l + 1)), .int .i64 (l + 1)], .int .i64 0])
  else .tuple #[zeroP, zeroP, .int .i64 (chk a l)]
set_option maxHeartbeats 2000000 in
set_option maxRecDepth 100000 in
theorem halves_any (a l : Int) (w : World) :
    Calls Try.prog 53 #[.agg #[.int .i64 a, .int .i64 l]] w fun e w' => e = .returned (halvesV a l) ∧ Ext w w' := by
  have hc := check_any a l
  unfold halvesV zeroP
  by_cases h0 : chk a l = 0
  · have hR : rightB a l = true := by simp [rightB, h0]
    obtain ⟨g1, g2, g3, g4, g5⟩ := right_bd hR
    rw [if_pos h0]
    rw [h0] at hc
    replace hc := Lib.hid hc
    clear h0
    by_cases h16 : l = 16
    · rw [if_pos h16]
      have h16I : (l == 16) = true := by simp [h16]
      clear h16
      go_enter Try.func53, Try.ntmps53
      go_wp2_with fail
      refine (hc.out _).mono ?_
      rintro e w1 ⟨rfl, hw1⟩
      obtain ⟨hcw1, hfw1⟩ := bcell hw1
      have hzw1 := bsize hw1
      (try simp only [World.size_alloc, World.size_setCell, World.size_drew, World.heap_drewN] at hcw1 hfw1 hzw1)
      go_wp2_with fail
      refine bodyPost_ret ?_ rfl ⟨rfl, Bel.bel (B := _) ?_⟩
      · simp [results, Try.results53, go_sem, hcw1]
      · (repeat (first | with_reducible assumption | with_reducible exact Bel.refl _ | with_reducible refine Bel.alloc ?_ _ | with_reducible refine Bel.drewN ?_ _ | with_reducible refine Bel.drew ?_ | (with_reducible refine Bel.setCell0 ?_ ?_ _; rotate_left; (first | omega | (simp; done) | (simp; omega))) | (with_reducible refine Bel.setCell ?_ (p := _) ?_ _; rotate_left; (first | (simp; done) | omega | (simp; omega))) | refine Bel.call ?_ (by assumption) | (refine EX.bel ?_ (by assumption) ?_; rotate_left; (first | omega | (simp; omega)))))
    · rw [if_neg h16]
      have h16I : (l == 16) = false := by simp [h16]
      have hor := or_szI a l hR (by omega)
      obtain ⟨z1, z2⟩ := msk_bd (l + 1) (by omega)
      have hwr : IntKind.i64.wrap (msk (l + 1) + 1) = msk (l + 1) + 1 := IntWalk.i64_in _ (by omega)
      have hmk := fun W => mask_any (l + 1) W (by omega) (by omega)
      replace hmk := Lib.hid hmk
      clear h16
      go_enter Try.func53, Try.ntmps53
      go_wp2_with fail
      refine (hc.out _).mono ?_
      rintro e w1 ⟨rfl, hw1⟩
      obtain ⟨hcw1, hfw1⟩ := bcell hw1
      have hzw1 := bsize hw1
      (try simp only [World.size_alloc, World.size_setCell, World.size_drew, World.heap_drewN] at hcw1 hfw1 hzw1)
      have l1 : w.heap.size < w1.heap.size := by omega
      have l2 : w.heap.size + 1 < w1.heap.size := by omega
      have l3 : w.heap.size + 1 + 1 < w1.heap.size := by omega
      go_wp2_with fail
      refine region_miy (w.heap.size + 1) (w.heap.size + 3) (by kernel_rfl) (by kernel_rfl) (fun _ _ d _ _ h => by cases d <;> exact h) ?_
      repeat (first | ((first | refine miy_skip_t rfl rfl rfl (by with_reducible rfl) ?_ | refine miy_skip_f rfl rfl rfl (by with_reducible rfl) ?_ | refine miy_skip_u rfl rfl rfl (by with_reducible rfl) ?_); simp only [Act.put, List.setIfInBounds_toArray, List.set_cons_zero, List.set_cons_succ]) | (apply miy_take; (first | exact want_0 rfl | exact want_b rfl rfl rfl (by with_reducible rfl)); intro wq hwq R hR; ((have hcc := EX.lo hwq (by first | omega | (simp; omega) | (simp; done)); have hcd := EX.hi hwq; (try simp only [World.size_alloc, World.size_setCell, World.size_drew, World.heap_drewN] at hcc hcd)); go_simp; first | exact hR | ((go_at_call 42; exact mcall_same (hmk.out _) hR))); simp only [Act.put, List.setIfInBounds_toArray, List.set_cons_zero, List.set_cons_succ]))
      refine miy_alone (by kernel_rfl) (by first | exact want_0 rfl | exact want_b rfl rfl rfl (by with_reducible rfl)) (fun w2 hw2 K hK => ?_)
      have hzw2 := hw2.size
      have hlw2 := EX.lo hw2 (by first | omega | (simp; omega) | (simp; done))
      have hhw2 := EX.hi hw2
      have hfw2 := hw2.free
      (try simp only [World.size_alloc, World.size_setCell, World.size_drew, World.heap_drewN] at hzw2 hlw2 hhw2 hfw2)
      (try have l0w2 : w.heap.size < w2.heap.size := by omega)
      (try have l1w2 : w.heap.size + 1 < w2.heap.size := by omega)
      (try have l2w2 : w.heap.size + 1 + 1 < w2.heap.size := by omega)
      (try have l3w2 : w.heap.size + 1 + 1 + 1 < w2.heap.size := by omega)
      obtain ⟨u0w2, hu0w2⟩ := hw2.some (b := w.heap.size + 1) (o := 0) (v := _) (by go_simp; rfl)
      obtain ⟨u1w2, hu1w2⟩ := hw2.some (b := w.heap.size + 1) (o := 1) (v := _) (by go_simp; rfl)
      go_simp
      refine hK _ _ (w.heap.size + 2) (w.heap.size + 3) (by omega) (by omega) (by repeat (first | exact EX.refl _ | refine EX.setCell ?_ (by omega) (by omega) _)) ?_
      clear hK K
      obtain ⟨v0, hv0⟩ := hw2.some (b := w.heap.size + 1 + 1) (o := 0) (v := _) (by go_simp; rfl)
      obtain ⟨v1, hv1⟩ := hw2.some (b := w.heap.size + 1 + 1) (o := 1) (v := _) (by go_simp; rfl)
      refine miy_alone (by kernel_rfl) (by first | exact want_0 rfl | exact want_b rfl rfl rfl (by with_reducible rfl)) (fun w3 hw3 K hK => ?_)
      have hzw3 := hw3.size
      have hlw3 := EX.lo hw3 (by first | omega | (simp; omega) | (simp; done))
      have hhw3 := EX.hi hw3
      have hfw3 := hw3.free
      (try simp only [World.size_alloc, World.size_setCell, World.size_drew, World.heap_drewN] at hzw3 hlw3 hhw3 hfw3)
      (try have l0w3 : w.heap.size < w3.heap.size := by omega)
      (try have l1w3 : w.heap.size + 1 < w3.heap.size := by omega)
      (try have l2w3 : w.heap.size + 1 + 1 < w3.heap.size := by omega)
      (try have l3w3 : w.heap.size + 1 + 1 + 1 < w3.heap.size := by omega)
      obtain ⟨u0w3, hu0w3⟩ := hw3.some (b := w.heap.size + 1 + 1) (o := 0) (v := _) (by go_simp; rfl)
      obtain ⟨u1w3, hu1w3⟩ := hw3.some (b := w.heap.size + 1 + 1) (o := 1) (v := _) (by go_simp; rfl)
      go_simp
      refine hK _ _ (w.heap.size + 3) (w.heap.size + 3) (by omega) (by omega) (by repeat (first | exact EX.refl _ | refine EX.setCell ?_ (by omega) (by omega) _)) ?_
      clear hK K
      repeat (first | ((first | refine miy_skip_t rfl rfl rfl (by with_reducible rfl) ?_ | refine miy_skip_f rfl rfl rfl (by with_reducible rfl) ?_ | refine miy_skip_u rfl rfl rfl (by with_reducible rfl) ?_); simp only [Act.put, List.setIfInBounds_toArray, List.set_cons_zero, List.set_cons_succ]) | (apply miy_take; (first | exact want_0 rfl | exact want_b rfl rfl rfl (by with_reducible rfl)); intro wq hwq R hR; ((have hcc := EX.lo hwq (by first | omega | (simp; omega) | (simp; done)); have hcd := EX.hi hwq; (try simp only [World.size_alloc, World.size_setCell, World.size_drew, World.heap_drewN] at hcc hcd)); go_simp; first | exact hR | (fail)); simp only [Act.put, List.setIfInBounds_toArray, List.set_cons_zero, List.set_cons_succ]))
      refine miy_nil ?_
      intro w4 hw4
      have hzw4 := hw4.size
      have hlw4 := EX.lo hw4 (by first | omega | (simp; omega) | (simp; done))
      have hhw4 := EX.hi hw4
      have hfw4 := hw4.free
      (try simp only [World.size_alloc, World.size_setCell, World.size_drew, World.heap_drewN] at hzw4 hlw4 hhw4 hfw4)
      (try have l0w4 : w.heap.size < w4.heap.size := by omega)
      (try have l1w4 : w.heap.size + 1 < w4.heap.size := by omega)
      (try have l2w4 : w.heap.size + 1 + 1 < w4.heap.size := by omega)
      (try have l3w4 : w.heap.size + 1 + 1 + 1 < w4.heap.size := by omega)
      go_wp2_with fail
      refine bodyPost_ret ?_ rfl ⟨rfl, Bel.bel (B := _) ?_⟩
      · simp [results, Try.results53, go_sem, hlw4, hlw3, hu0w2, hu1w2, hu0w3, hu1w3]
      · (repeat (first | with_reducible assumption | with_reducible exact Bel.refl _ | with_reducible refine Bel.alloc ?_ _ | with_reducible refine Bel.drewN ?_ _ | with_reducible refine Bel.drew ?_ | (with_reducible refine Bel.setCell0 ?_ ?_ _; rotate_left; (first | omega | (simp; done) | (simp; omega))) | (with_reducible refine Bel.setCell ?_ (p := _) ?_ _; rotate_left; (first | (simp; done) | omega | (simp; omega))) | refine Bel.call ?_ (by assumption) | (refine EX.bel ?_ (by assumption) ?_; rotate_left; (first | omega | (simp; omega)))))
  · rw [if_neg h0]
    replace h0 : (chk a l != 0) = true := by simpa using h0
    obtain ⟨r, hr⟩ : ∃ r, r = chk a l := ⟨_, rfl⟩
    rw [← hr] at hc h0 ⊢
    clear hr
    replace hc := Lib.hid hc
    go_enter Try.func53, Try.ntmps53
    go_wp2_with fail
    refine (hc.out _).mono ?_
    rintro e w1 ⟨rfl, hw1⟩
    obtain ⟨hcw1, hfw1⟩ := bcell hw1
    have hzw1 := bsize hw1
    (try simp only [World.size_alloc, World.size_setCell, World.size_drew, World.heap_drewN] at hcw1 hfw1 hzw1)
    go_wp2_with fail
    refine bodyPost_ret ?_ rfl ⟨rfl, Bel.bel (B := _) ?_⟩
    · simp [results, Try.results53, go_sem, hcw1]
    · (repeat (first | with_reducible assumption | with_reducible exact Bel.refl _ | with_reducible refine Bel.alloc ?_ _ | with_reducible refine Bel.drewN ?_ _ | with_reducible refine Bel.drew ?_ | (with_reducible refine Bel.setCell0 ?_ ?_ _; rotate_left; (first | omega | (simp; done) | (simp; omega))) | (with_reducible refine Bel.setCell ?_ (p := _) ?_ _; rotate_left; (first | (simp; done) | omega | (simp; omega))) | refine Bel.call ?_ (by assumption) | (refine EX.bel ?_ (by assumption) ?_; rotate_left; (first | omega | (simp; omega)))))
end Go.Proofs.Ytflbpkgnadjokaa
namespace Go.Proofs.Ytflbpkgnadjokaa
open Go Go.RowKit
theorem check_p (p : Pfx) : PSpec Try.prog 34 [.agg (encP p)] (.v (.int .i64 (chk p.at_ p.len))) := pspec_flat (fnok_of Try.func34 (by kernel_rfl) rfl) (by intro d hd; simp at hd; (repeat (first | (obtain rfl := hd; rfl) | (rcases hd with rfl | hd; · rfl)))) rfl rfl (fun w => check_any _ _ _)
theorem size_p (p : Pfx) : PSpec Try.prog 22 [.agg (encP p)] (.v (.int .i64 (sizeI p.at_ p.len))) := pspec_flat (fnok_of Try.func22 (by kernel_rfl) rfl) (by intro d hd; simp at hd; (repeat (first | (obtain rfl := hd; rfl) | (rcases hd with rfl | hd; · rfl)))) rfl rfl (fun w => size_any _ _ _)
theorem inside_p (p q : Pfx) : PSpec Try.prog 20 [.agg (encP p), .agg (encP q)] (.v (.bool (insP p.at_ p.len q.at_ q.len))) := pspec_flat (fnok_of Try.func20 (by kernel_rfl) rfl) (by intro d hd; simp at hd; (repeat (first | (obtain rfl := hd; rfl) | (rcases hd with rfl | hd; · rfl)))) rfl rfl (fun w => inside_any _ _ _ _ _)
theorem meets_p (p q : Pfx) : PSpec Try.prog 50 [.agg (encP p), .agg (encP q)] (.v (.bool (meetP p.at_ p.len q.at_ q.len))) := pspec_flat (fnok_of Try.func50 (by kernel_rfl) rfl) (by intro d hd; simp at hd; (repeat (first | (obtain rfl := hd; rfl) | (rcases hd with rfl | hd; · rfl)))) rfl rfl (fun w => meets_any _ _ _ _ _)
theorem checkPrefix_p (p : Pfx) : PSpec Try.prog 46 [.agg (encP p)] (.v (.int .i64 (chk p.at_ p.len))) := pspec_flat (fnok_of Try.func46 (by kernel_rfl) rfl) (by intro d hd; simp at hd; (repeat (first | (obtain rfl := hd; rfl) | (rcases hd with rfl | hd; · rfl)))) rfl rfl (fun w => checkPrefix_any _ _ _)
theorem rightR_p (p : Pfx) : PSpec Try.prog 26 [.agg (encP p)] (.v (.bool (rightB p.at_ p.len))) := pspec_flat (fnok_of Try.func26 (by kernel_rfl) rfl) (by intro d hd; simp at hd; (repeat (first | (obtain rfl := hd; rfl) | (rcases hd with rfl | hd; · rfl)))) rfl rfl (fun w => rightR_any _ _ _)
theorem last_p (p : Pfx) (h : rightB p.at_ p.len = true) : PSpec Try.prog 30 [.agg (encP p)] (.v (.int .i64 (lastI p.at_ p.len))) := pspec_flat (fnok_of Try.func30 (by kernel_rfl) rfl) (by intro d hd; simp at hd; (repeat (first | (obtain rfl := hd; rfl) | (rcases hd with rfl | hd; · rfl)))) rfl rfl (fun w => last_any _ _ _ h)
theorem holdsIt_p (p : Pfx) (x : Int) : PSpec Try.prog 32 [.agg (encP p), .v (.int .i64 x)] (.v (.bool (holdB p.at_ p.len x))) := pspec_flat (fnok_of Try.func32 (by kernel_rfl) rfl) (by intro d hd; simp at hd; (repeat (first | (obtain rfl := hd; rfl) | (rcases hd with rfl | hd; · rfl)))) rfl rfl (fun w => holdsIt_any _ _ _ _)
theorem insideOf_p (p q : Pfx) : PSpec Try.prog 27 [.agg (encP p), .agg (encP q)] (.v (.bool (insR p.at_ p.len q.at_ q.len))) := pspec_flat (fnok_of Try.func27 (by kernel_rfl) rfl) (by intro d hd; simp at hd; (repeat (first | (obtain rfl := hd; rfl) | (rcases hd with rfl | hd; · rfl)))) rfl rfl (fun w => insideOf_any _ _ _ _ _)
theorem meet_p (p q : Pfx) : PSpec Try.prog 28 [.agg (encP p), .agg (encP q)] (.v (.bool (meetB p.at_ p.len q.at_ q.len))) := pspec_flat (fnok_of Try.func28 (by kernel_rfl) rfl) (by intro d hd; simp at hd; (repeat (first | (obtain rfl := hd; rfl) | (rcases hd with rfl | hd; · rfl)))) rfl rfl (fun w => meet_any _ _ _ _ _)
end Go.Proofs.Ytflbpkgnadjokaa
namespace Go.Proofs.Ytflbpkgnadjokaa
open Go Go.RowKit Go.Proofs
section
variable {w : World} {b o : Nat} {c0 c1 c2 c3 c4 c5 c6 c7 c8 : Value}
theorem cellsAt_2 (h : cellsAt w b o [c0, c1]) : w.cell? ⟨b, o, none⟩ = some c0 ∧ w.cell? ⟨b, o + 1, none⟩ = some c1 := ⟨h 0 (by simp), h 1 (by simp)⟩
theorem cellsAt_3 (h : cellsAt w b o [c0, c1, c2]) : w.cell? ⟨b, o, none⟩ = some c0 ∧ w.cell? ⟨b, o + 1, none⟩ = some c1 ∧ w.cell? ⟨b, o + 2, none⟩ = some c2 := ⟨h 0 (by simp), h 1 (by simp), h 2 (by simp)⟩
theorem cellsAt_4 (h : cellsAt w b o [c0, c1, c2, c3]) : w.cell? ⟨b, o, none⟩ = some c0 ∧ w.cell? ⟨b, o + 1, none⟩ = some c1 ∧ w.cell? ⟨b, o + 2, none⟩ = some c2 ∧ w.cell? ⟨b, o + 3, none⟩ = some c3 := ⟨h 0 (by simp), h 1 (by simp), h 2 (by simp), h 3 (by simp)⟩
theorem cellsAt_5 (h : cellsAt w b o [c0, c1, c2, c3, c4]) : w.cell? ⟨b, o, none⟩ = some c0 ∧ w.cell? ⟨b, o + 1, none⟩ = some c1 ∧ w.cell? ⟨b, o + 2, none⟩ = some c2 ∧ w.cell? ⟨b, o + 3, none⟩ = some c3 ∧ w.cell? ⟨b, o + 4, none⟩ = some c4 := ⟨h 0 (by simp), h 1 (by simp), h 2 (by simp), h 3 (by simp), h 4 (by simp)⟩
theorem cellsAt_9 (h : cellsAt w b o [c0, c1, c2, c3, c4, c5, c6, c7, c8]) : w.cell? ⟨b, o, none⟩ = some c0 ∧ w.cell? ⟨b, o + 1, none⟩ = some c1 ∧ w.cell? ⟨b, o + 2, none⟩ = some c2 ∧ w.cell? ⟨b, o + 3, none⟩ = some c3 ∧ w.cell? ⟨b, o + 4, none⟩ = some c4 ∧ w.cell? ⟨b, o + 5, none⟩ = some c5 ∧ w.cell? ⟨b, o + 6, none⟩ = some c6 ∧ w.cell? ⟨b, o + 7, none⟩ = some c7 ∧ w.cell? ⟨b, o + 8, none⟩ = some c8 :=
  ⟨h 0 (by simp), h 1 (by simp), h 2 (by simp), h 3 (by simp), h 4 (by simp), h 5 (by simp), h 6 (by simp), h 7 (by simp), h 8 (by simp)⟩
end
theorem cellsAt_ext {w w' : World} {b o : Nat} {cs : List Value} (hx : Ext w w') (h : cellsAt w b o cs) : cellsAt w' b o cs := fun j hj => keepCell hx (h j hj)
theorem Sl.ext {α : Type} {A : Area} {w w' : World} {k : Nat} {R : List Value → α → Prop} {ao : Option Addr} {cap : Nat} {l : List α} (h : Sl A w k R ao cap l) (hx : Ext w w') : Sl A w' k R ao cap l := by
  refine ⟨h.cap_le, h.cap_max, fun i hi => ?_⟩
  obtain ⟨b, off, cs, h1, h2, h3, h4, h5⟩ := h.elem i hi
  exact ⟨b, off, cs, h1, h2, h3, h4, cellsAt_ext hx h5⟩
theorem Sl.nil {α : Type} {A : Area} {w : World} {k : Nat} {R : List Value → α → Prop} {ao : Option Addr} {cap : Nat} (h : cap ≤ 9223372036854775807) : Sl A w k R ao cap ([] : List α) :=
  ⟨Nat.zero_le _, h, fun i hi => by simp at hi⟩
theorem Sl.take {α : Type} {A : Area} {w : World} {k : Nat} {R : List Value → α → Prop} {ao : Option Addr} {cap : Nat} {l : List α} (h : Sl A w k R ao cap l) (n : Nat) : Sl A w k R ao cap (l.take n) := by
  refine ⟨Nat.le_trans (List.length_take_le' n l) h.cap_le, h.cap_max, fun i hi => ?_⟩
  have hi' : i < l.length := by rw [List.length_take] at hi; omega
  obtain ⟨b, off, cs, h1, h2, h3, h4, h5⟩ := h.elem i hi'
  exact ⟨b, off, cs, h1, h2, h3, by rw [List.getElem_take]; exact h4, h5⟩
theorem Sl.mono {α : Type} {A : Area} {w : World} {k : Nat} {R R' : List Value → α → Prop} {ao : Option Addr} {cap : Nat} {l : List α} (h : Sl A w k R ao cap l) (hR : ∀ cs x, x ∈ l → R cs x → R' cs x) : Sl A w k R' ao cap l := by
  refine ⟨h.cap_le, h.cap_max, fun i hi => ?_⟩
  obtain ⟨b, off, cs, h1, h2, h3, h4, h5⟩ := h.elem i hi
  exact ⟨b, off, cs, h1, h2, h3, hR _ _ (List.getElem_mem hi) h4, h5⟩
/-- The first index of which p holds; -1: none. -/
def idxOf {α : Type} (p : α → Bool) (l : List α) : Int := match l.findIdx? p with | some i => (i : Int) | none => -1
theorem idx_hit {α : Type} {p : α → Bool} {l : List α} {k : Nat} (hk : k < l.length) (hp : p l[k] = true) (hn : ∀ j (h : j < k), p (l[j]'(by omega)) = false) : idxOf p l = k := by
  have : l.findIdx? p = some k := by
    rw [List.findIdx?_eq_some_iff_getElem]
    exact ⟨hk, hp, fun j hj => by simp [hn j hj]⟩
  unfold idxOf; rw [this]
theorem idx_none {α : Type} {p : α → Bool} {l : List α} (hn : ∀ j (h : j < l.length), p l[j] = false) : idxOf p l = -1 := by
  have : l.findIdx? p = none := by
    rw [List.findIdx?_eq_none_iff]
    intro x hx
    obtain ⟨j, hj, rfl⟩ := List.mem_iff_getElem.1 hx
    exact hn j hj
  unfold idxOf; rw [this]
theorem idx_any {α : Type} (p : α → Bool) (l : List α) : decide (idxOf p l ≥ 0) = l.any p := by
  unfold idxOf
  cases h : l.findIdx? p with
  | none =>
    rw [List.findIdx?_eq_none_iff] at h
    have : l.any p = false := by rw [List.any_eq_false]; intro x hx; simp [h x hx]
    rw [this]; rfl
  | some i =>
    rw [List.findIdx?_eq_some_iff_getElem] at h
    obtain ⟨hi, hp, _⟩ := h
    have : l.any p = true := by rw [List.any_eq_true]; exact ⟨l[i], List.getElem_mem hi, hp⟩
    rw [this]; simp
theorem idx_bd {α : Type} (p : α → Bool) (l : List α) : -1 ≤ idxOf p l ∧ idxOf p l < l.length := by
  unfold idxOf
  cases h : l.findIdx? p with
  | none => simp; omega
  | some i =>
    rw [List.findIdx?_eq_some_iff_getElem] at h
    obtain ⟨hi, _⟩ := h
    simp; omega
/-- What is asked of a function value that answers a bool. -/
def PredP {α : Type} (P : Program) (g : Nat) (lb : Array Value) (R : List Value → α → Prop) (p : α → Bool) (l : List α) (w : World) : Prop :=
  ∀ W, Ext w W → ∀ x ∈ l, ∀ cs, R cs x → Calls P g (#[.agg cs.toArray] ++ lb) W fun e w' => e = .returned (.bool (p x)) ∧ Ext W w'
end Go.Proofs.Ytflbpkgnadjokaa
namespace Go.Proofs.Ytflbpkgnadjokaa
open Go Go.RowKit Go.Proofs
set_option maxHeartbeats 1000000 in
theorem indexFunc_P {α : Type} {A : Area} {R : List Value → α → Prop} (g : Nat) (lb : Array Value) (eg : ∀ args w, (callFunc g args).run Try.prog w = .ok (.enter g args) w) (p : α → Bool) (l : List α) (ao : Option Addr) (cap : Nat) (w : World) (h : Sl A w 2 R ao cap l) (hp : PredP Try.prog g lb R p l w) :
    Calls Try.prog 55 #[.slice ao l.length cap, .func (.func g) #[] lb] w fun e w' => e = .returned (.int .i64 (idxOf p l)) ∧ Ext w w' := by
  have hcl := h.cap_le
  have hcm := h.cap_max
  obtain ⟨r, hr⟩ : ∃ r, r = idxOf p l := ⟨_, rfl⟩
  rw [← hr]
  replace hr := Lib.hid hr
  replace hp := Lib.hid hp
  go_enter Try.func55, Try.ntmps55
  go_wp2_with fail
  go_loopw [5, 8] (fun _ s8 wr => ∃ k : Nat, k ≤ l.length ∧ s8 = .int .i64 k ∧ Hid (∀ j (h : j < k) (h' : j < l.length), p l[j] = false) ∧ Ext w wr) (fun _ s8 _ => l.length - (intOf s8).toNat)
  case atStart => exact ⟨0, Nat.zero_le _, rfl, Lib.hid (fun j hj => absurd hj (Nat.not_lt_zero _)), Below.refl _ w⟩
  case round =>
    obtain ⟨k, hk, rfl, hall, hx⟩ := hrel
    by_cases hlt : k < l.length
    · have hltI : (k : Int) < (l.length : Int) := by omega
      obtain ⟨b, off, cs, rfl, -, hlen, hR, hcs⟩ := h.elem k hlt
      have hcall := hp.out wr hx l[k] (List.getElem_mem hlt) cs hR
      replace hcs := cellsAt_ext hx hcs
      obtain ⟨q, hq⟩ : ∃ q, q = p l[k] := ⟨_, rfl⟩
      rw [← hq] at hcall
      replace hq := Lib.hid hq
      clear h hR
      match cs, hlen with
      | [v0, v1], _ =>
        obtain ⟨k0, k1⟩ := cellsAt_2 hcs
        clear hcs
        replace hcall := Lib.hid hcall
        cases q
        case true =>
          go_wp2_with fail
          refine hcall.out.mono ?_
          rintro e w1 ⟨rfl, hx1⟩
          go_wp2_with fail
          go_ret
          exact ⟨ret_int (by rw [hr.out]; exact (idx_hit hlt hq.out.symm fun j hj => hall.out j hj (by omega)).symm), ext_trans hx hx1⟩
        case false =>
          go_wp2_with fail
          refine hcall.out.mono ?_
          rintro e w1 ⟨rfl, hx1⟩
          go_wp2_with fail
          go_roundw
          case rel => exact ⟨k + 1, by omega, by go_num, Lib.hid (fun j hj hj' => by
            rcases Nat.lt_or_eq_of_le (Nat.le_of_lt_succ hj) with h1 | h1
            · exact hall.out j h1 hj'
            · subst h1; exact hq.out.symm), ext_trans hx hx1⟩
          case measure => simp [intOf]; omega
    · have hltI : ¬ (k : Int) < (l.length : Int) := by omega
      obtain rfl : k = l.length := by omega
      go_wp2_with fail
      go_ret
      exact ⟨ret_int (by rw [hr.out]; exact (idx_none fun j hj => hall.out j hj hj).symm), hx⟩
theorem containsFunc_P {α : Type} {A : Area} {R : List Value → α → Prop} (g : Nat) (lb : Array Value) (eg : ∀ args w, (callFunc g args).run Try.prog w = .ok (.enter g args) w) (p : α → Bool) (l : List α) (ao : Option Addr) (cap : Nat) (w : World) (h : Sl A w 2 R ao cap l) (hp : PredP Try.prog g lb R p l w) :
    Calls Try.prog 48 #[.slice ao l.length cap, .func (.func g) #[] lb] w fun e w' => e = .returned (.bool (l.any p)) ∧ Ext w w' := by
  have hc := indexFunc_P g lb eg p l ao cap w h hp
  have ha := idx_any p l
  obtain ⟨r, hr⟩ : ∃ r, r = idxOf p l := ⟨_, rfl⟩
  rw [← hr] at hc ha
  rw [← ha]
  clear hr ha h hp
  replace hc := Lib.hid hc
  go_enter Try.func48, Try.ntmps48
  go_wp2_with fail
  refine hc.out.mono ?_
  rintro e w1 ⟨rfl, hx1⟩
  go_wp2_with fail
  go_ret
  exact ⟨rfl, hx1⟩
end Go.Proofs.Ytflbpkgnadjokaa
namespace Go.Proofs.Ytflbpkgnadjokaa
open Go Go.RowKit Go.Proofs
set_option maxRecDepth 100000
instance : DecidableEq Pfx := fun a b => by
  cases a; cases b; simp only [Pfx.mk.injEq]; exact inferInstance
set_option maxHeartbeats 1000000 in
theorem index_P {A : Area} (v : Pfx) (l : List Pfx) (ao : Option Addr) (cap : Nat) (w : World) (h : Sl A w 2 Pfx.R ao cap l) :
    Calls Try.prog 39 #[.slice ao l.length cap, .agg #[.int .i64 v.at_, .int .i64 v.len]] w fun e w' => e = .returned (.int .i64 (idxOf (fun x => decide (v = x)) l)) ∧ Ext w w' := by
  have hcl := h.cap_le
  have hcm := h.cap_max
  obtain ⟨r, hr⟩ : ∃ r, r = idxOf (fun x => decide (v = x)) l := ⟨_, rfl⟩
  rw [← hr]
  replace hr := Lib.hid hr
  go_enter Try.func39, Try.ntmps39
  go_wp2_with fail
  go_loopw [5, 8] (fun _ s8 wr => ∃ k : Nat, k ≤ l.length ∧ s8 = .int .i64 k ∧ Hid (∀ j (h : j < k) (h' : j < l.length), decide (v = l[j]) = false) ∧ Ext (w.alloc (.cells #[.int .i64 v.at_, .int .i64 v.len] 23)) wr) (fun _ s8 _ => l.length - (intOf s8).toNat)
  case atStart => exact ⟨0, Nat.zero_le _, rfl, Lib.hid (fun j hj => absurd hj (Nat.not_lt_zero _)), Below.refl _ _⟩
  case round =>
    obtain ⟨k, hk, rfl, hall, hx⟩ := hrel
    by_cases hlt : k < l.length
    · have hltI : (k : Int) < (l.length : Int) := by omega
      obtain ⟨b, off, cs, rfl, -, hlen, hR, hcs⟩ := h.elem k hlt
      replace hcs := cellsAt_ext hx (cellsAt_ext (ext_alloc _ _) hcs)
      unfold Pfx.R at hR
      subst hR
      obtain ⟨k0, k1⟩ := cellsAt_2 hcs
      have p0 : wr.cell? ⟨w.heap.size, 0, none⟩ = some (.int .i64 v.at_) := keepCell hx (by simp)
      have p1 : wr.cell? ⟨w.heap.size, 1, none⟩ = some (.int .i64 v.len) := keepCell hx (by simp)
      have lb := lt_of_cell k0
      have lp := lt_of_cell p0
      obtain ⟨y, hy⟩ : ∃ y, y = l[k] := ⟨_, rfl⟩
      rw [← hy] at k0 k1
      replace hy := Lib.hid hy
      clear hcs h
      by_cases e0 : v.at_ = y.at_
      · by_cases e1 : v.len = y.len
        · have he : decide (v = y) = true := by simp; cases v; cases y; simp_all
          replace he := Lib.hid he
          go_wp2_with fail
          refine region_mix (by kernel_rfl) (by kernel_rfl) (fun _ _ d _ _ h => by cases d <;> exact h) ?_
          repeat (first | ((first | refine mix_skip_t rfl rfl rfl (by with_reducible rfl) ?_ | refine mix_skip_f rfl rfl rfl (by with_reducible rfl) ?_ | refine mix_skip_u rfl rfl rfl (by with_reducible rfl) ?_); simp only [Act.put, List.setIfInBounds_toArray, List.set_cons_zero, List.set_cons_succ]) | (apply mix_take; (first | exact want_0 rfl | exact want_b rfl rfl rfl (by with_reducible rfl)); intro wq hwq R hR; ((have hcc := (bcell hwq).1; (try simp only [World.size_alloc, World.size_setCell, World.size_drew, World.heap_drewN] at hcc)); go_simp; first | exact hR | (fail)); simp only [Act.put, List.setIfInBounds_toArray, List.set_cons_zero, List.set_cons_succ]))
          refine mix_nil ?_
          intro w2 hw2
          obtain ⟨hcw2, hfw2⟩ := bcell hw2
          have hzw2 := bsize hw2
          (try simp only [World.size_alloc, World.size_setCell, World.size_drew, World.heap_drewN] at hcw2 hfw2 hzw2)
          go_wp2_with fail
          go_ret
          exact ⟨ret_int (by rw [hr.out]; exact (idx_hit hlt (by rw [← hy.out]; exact he.out) fun j hj => hall.out j hj (by omega)).symm), ext_trans (ext_alloc _ _) (ext_trans hx hw2)⟩
        · have he : decide (v = y) = false := by simp; intro h; exact e1 (by rw [h])
          replace he := Lib.hid he
          go_wp2_with fail
          refine region_mix (by kernel_rfl) (by kernel_rfl) (fun _ _ d _ _ h => by cases d <;> exact h) ?_
          repeat (first | ((first | refine mix_skip_t rfl rfl rfl (by with_reducible rfl) ?_ | refine mix_skip_f rfl rfl rfl (by with_reducible rfl) ?_ | refine mix_skip_u rfl rfl rfl (by with_reducible rfl) ?_); simp only [Act.put, List.setIfInBounds_toArray, List.set_cons_zero, List.set_cons_succ]) | (apply mix_take; (first | exact want_0 rfl | exact want_b rfl rfl rfl (by with_reducible rfl)); intro wq hwq R hR; ((have hcc := (bcell hwq).1; (try simp only [World.size_alloc, World.size_setCell, World.size_drew, World.heap_drewN] at hcc)); go_simp; first | exact hR | (fail)); simp only [Act.put, List.setIfInBounds_toArray, List.set_cons_zero, List.set_cons_succ]))
          refine mix_nil ?_
          intro w2 hw2
          obtain ⟨hcw2, hfw2⟩ := bcell hw2
          have hzw2 := bsize hw2
          (try simp only [World.size_alloc, World.size_setCell, World.size_drew, World.heap_drewN] at hcw2 hfw2 hzw2)
          go_wp2_with fail
          go_roundw
          case rel => exact ⟨k + 1, by omega, by go_num, Lib.hid (fun j hj hj' => by
            rcases Nat.lt_or_eq_of_le (Nat.le_of_lt_succ hj) with h1 | h1
            · exact hall.out j h1 hj'
            · subst h1; rw [← hy.out]; exact he.out), ext_trans hx hw2⟩
          case measure => simp [intOf]; omega
      · have he : decide (v = y) = false := by simp; intro h; exact e0 (by rw [h])
        replace he := Lib.hid he
        go_wp2_with fail
        refine region_mix (by kernel_rfl) (by kernel_rfl) (fun _ _ d _ _ h => by cases d <;> exact h) ?_
        repeat (first | ((first | refine mix_skip_t rfl rfl rfl (by with_reducible rfl) ?_ | refine mix_skip_f rfl rfl rfl (by with_reducible rfl) ?_ | refine mix_skip_u rfl rfl rfl (by with_reducible rfl) ?_); simp only [Act.put, List.setIfInBounds_toArray, List.set_cons_zero, List.set_cons_succ]) | (apply mix_take; (first | exact want_0 rfl | exact want_b rfl rfl rfl (by with_reducible rfl)); intro wq hwq R hR; ((have hcc := (bcell hwq).1; (try simp only [World.size_alloc, World.size_setCell, World.size_drew, World.heap_drewN] at hcc)); go_simp; first | exact hR | (fail)); simp only [Act.put, List.setIfInBounds_toArray, List.set_cons_zero, List.set_cons_succ]))
        refine mix_nil ?_
        intro w2 hw2
        obtain ⟨hcw2, hfw2⟩ := bcell hw2
        have hzw2 := bsize hw2
        (try simp only [World.size_alloc, World.size_setCell, World.size_drew, World.heap_drewN] at hcw2 hfw2 hzw2)
        go_wp2_with fail
        go_roundw
        case rel => exact ⟨k + 1, by omega, by go_num, Lib.hid (fun j hj hj' => by
          rcases Nat.lt_or_eq_of_le (Nat.le_of_lt_succ hj) with h1 | h1
          · exact hall.out j h1 hj'
          · subst h1; rw [← hy.out]; exact he.out), ext_trans hx hw2⟩
        case measure => simp [intOf]; omega
    · have hltI : ¬ (k : Int) < (l.length : Int) := by omega
      obtain rfl : k = l.length := by omega
      go_wp2_with fail
      go_ret
      exact ⟨ret_int (by rw [hr.out]; exact (idx_none fun j hj => hall.out j hj hj).symm), ext_trans (ext_alloc _ _) hx⟩
theorem contains_P {A : Area} (v : Pfx) (l : List Pfx) (ao : Option Addr) (cap : Nat) (w : World) (h : Sl A w 2 Pfx.R ao cap l) :
    Calls Try.prog 54 #[.slice ao l.length cap, .agg #[.int .i64 v.at_, .int .i64 v.len]] w fun e w' => e = .returned (.bool (l.contains v)) ∧ Ext w w' := by
  have hc := fun W (h : Sl A W 2 Pfx.R ao cap l) => index_P v l ao cap W h
  have ha := idx_any (fun x => decide (v = x)) l
  have hb : l.contains v = l.any (fun x => decide (v = x)) := by
    rw [Bool.eq_iff_iff]; simp
  rw [← hb] at ha
  obtain ⟨r, hr⟩ : ∃ r, r = idxOf (fun x => decide (v = x)) l := ⟨_, rfl⟩
  rw [← hr] at ha
  simp only [← hr] at hc
  rw [← ha]
  clear hr ha hb
  replace hc := Lib.hid hc
  go_enter Try.func54, Try.ntmps54
  go_wp2_with fail
  refine (hc.out _ (h.ext (ext_alloc _ _))).mono ?_
  rintro e w1 ⟨rfl, hx1⟩
  go_wp2_with fail
  go_ret
  exact ⟨rfl, ext_trans (ext_alloc _ _) hx1⟩
end Go.Proofs.Ytflbpkgnadjokaa
