/- Texts of this work, joined. -/
import Derived.Test.YtmicljipaiohkaaGreatZHSitePlays1
import Derived.Deep.LoopGhost
import Derived.Tactics2
import Derived.WalkLawsBesides
import Derived.WalkSpells
import Derived.KernelRfl
import Derived.Deep.QuietTactic
import Derived.BigQuiet
import Derived.Outline
import Derived.Lib.Hide
import Derived.Deep.DeepFit
import Derived.Test.YtmicljipaiohkaaGreatProg
import Derived.Laws.BitsAllLaws
import Derived.Laws.BitsLemmas
import Derived.Deep.RegionHeld3
set_option linter.unusedSimpArgs false
set_option linter.unusedVariables false
set_option maxRecDepth 100000
set_option maxHeartbeats 16000000
namespace Go.Proofs.YtmicljipaiohkaaGreat
open Go Go.RowKit Go.Proofs.Tryz
open Go.Lib renaming hid → Xj
open _root_.List renaming getElem?_eq_getElem → Xk, mem_of_getElem? → Xl, map_cons → Xm, getElem?_eq_some_iff → Xn, map_append → Xo, length_take → Xp, setIfInBounds_toArray → Xq, take_length → Xt, map_nil → Xu, set_cons_zero → Xv, set_cons_succ → Xx, getElem?_map → Xz, length_cons → XA, length_map → XC, all_eq_true → XE, findIdx?_eq_some_iff_getElem → XH, length_drop → XI, getD_eq_getElem?_getD → XJ, getElem?_append_right → XK, take_of_length_le → XN, mem_map → XQ, getElem?_take_of_lt → XS, getElem?_eq_none → XT, any_eq_true → XU, replicate → XV, length_append → XY, length_nil → XZ, mem_iff_getElem → X0, mem_append → X2, append_assoc → X3, getElem?_append_left → X4, range → X5, mem_cons → X7, cons_append → X8, eq_nil_of_length_eq_zero → X9, nil_append → Ya, mem_singleton → Yc, mem_of_mem_drop → Yd, mem_of_mem_take → Yg, any_eq_false → Yh, ext_getElem? → Yj, getElem?_drop → Yk, take_append_of_le_length → Yl, getElem_mem → Ym, findIdx?_eq_none_iff → Yn, set_append_right → Yt, append_nil → Yv, getElem?_cons_succ → Yw, pairwise_cons → YC, size_toArray → YH, eraseIdx_eq_take_drop_succ → YK, drop_eq_getElem_cons → YQ, mem_range → YR, length_set → YV, filter_append → YW, take_append_drop → YX, filter_eq_self → Y0, all_eq_false → Y2, drop_length → Y7, mem_map_of_mem → Y8, length_filter_le → Za, length_pos_iff → Zd, map_congr_left → Zr, getElem_take → ZA, take_succ_cons → ZC, map_take → ZH, getElem?_range → ZU, take_zero → Z4, length → I'
open Go.World renaming size_alloc → Xr, heap_drewN → Xs, size_drew → Xw, cell? → YS, cell?_of_block → Zl
open _root_.Bool renaming and_eq_true → Xy, eq_iff_iff → Yi, and_self → Yp, true_and → Yr, and_true → YA, false_eq_true → YB, eq_false_iff → YE, or_eq_false_iff → Zm, not_eq_true' → Zz, not_eq_true → ZI, not_true → Z0
open _root_.Nat renaming le_refl → XB, zero_le → XD, zero_add → XG, reduceAdd → XM, lt_or_ge → XP, add_zero → XW, sub_zero → Yo, mul_le_mul_right → Ys, lt_of_lt_of_le → Yx, le_trans → Yy, sub_self → YG, not_lt_zero → YJ, lt_trichotomy → Zb, min_self → Zq, add_assoc → ZF, eq_zero_or_pos → ZJ, reduceLT → ZR, le_of_lt → p', and_two_pow_sub_one_eq_mod → U', one_le_two_pow → Z', not_lt → _g
open _root_.Option renaming map_eq_some_iff → XO, isSome_some → XR, some → XX, map_some → Ye, getD_some → YI, isSome_none → YZ, bind_some → Y6, isSome_iff_exists → Zf, map_none → Zg
open _root_.Array renaming getElem?_toList → X6, getD_eq_getD_getElem? → Yu, getElem?_eq_some_iff → Yz, getElem?_eq_none → YM, replicate → Y5
open _root_.Int renaming dvd_of_emod_eq_zero → YL, lt_irrefl → YN, le_refl → ZG, lt_or_le → z', dvd_trans → C'
theorem go:∀(l:List Chunk),aG l l.length= .none
 |[]=>rfl
 |_::l=>go l
structure TabOK (P:Program)(T:Nat→Option TI)(Q:Nat→Option Nat):Prop where
 t:∀t ti,T t=some ti→aT P t=some ti
 q:∀t n,Q t=some n→AR P t n
 m:∀t ti n s,T t=some ti→ti.mp=some (n,s)→MapOK P t n s
theorem xm {P:Program}{t e:Nat}(h:P.underlying t=some (.pointer e))(a:Addr)(w:World):(Op.equal t (.pointer (some a)) (.pointer none)).run P w= .ok false w:=by
 unfold Op.equal;show (Op.equalIn (9999+1) t _ _).run P w=_;rw[Op.equalIn,Sem.run_bind,run_underlying h];rfl
theorem xn {P:Program}{t e:Nat}(h:P.underlying t=some (.pointer e))(w:World):(Op.equal t (.pointer none) (.pointer none)).run P w= .ok true w:=by
 unfold Op.equal;show (Op.equalIn (9999+1) t _ _).run P w=_;rw[Op.equalIn,Sem.run_bind,run_underlying h];rfl
theorem yg {X:Cfg}{ops:Array Oper}{s:FS}{o:Oper}(hd:∀d,o.dst=some d→d < X.n){ti:TI}{op:BinOp}{t t':Nat}{x y:Operand}{r:Bool}(ho:o.op= .binOp op t x y t')(ht:aT X.P t=some ti)(hb:ti.kind=3)(hx:ev s x= .d (.v (.pointer none)))(hy:ev s y= .d (.v (.pointer none)))
 (hr:(op= .eql∧r=true)∨(op= .neq∧r=false)):bI X ops s o {pv:= .d (.v (.bool r))}:=
 aM hd fun s' he _ a w c hc=>by
  have h1:=cZ hc ((he x (by simp[ho,Op.operands])).trans hx);have h2:=cZ hc ((he y (by simp[ho,Op.operands])).trans hy);obtain⟨i,d,z,tk⟩:=ig ht;obtain⟨el,rfl⟩:∃el,d= .pointer el:=by
   have:=tk.kind;rw[hb]at this;cases d<;>simp[pr]at this;exact⟨_,rfl⟩
  refine⟨.bool r,?_,.d _ _ (.v _)⟩;rcases hr with⟨rfl,rfl⟩|⟨rfl,rfl⟩<;>simp[execOp,ho,h1,h2,eqGuard,binOp,xn tk.und]
theorem tZ {P:Program}{t e:Nat}(h:P.underlying t=some (.slice e))(a:Option Addr)(n c n' c':Nat)(w:World):(Op.equal t (.slice a n c) (.slice none n' c')).run P w= .ok a.isNone w:=by
 unfold Op.equal;show (Op.equalIn (9999+1) t _ _).run P w=_;rw[Op.equalIn,Sem.run_bind,run_underlying h];cases a<;>rfl
theorem qE {X:Cfg}{ops:Array Oper}{s:FS}{o:Oper}(hd:∀d,o.dst=some d→d < X.n){ti:TI}{op:BinOp}{t t' n' c':Nat}{x y:Operand}{r z:Bool}(ho:o.op= .binOp op t x y t')(ht:aT X.P t=some ti)(hb:ti.elem.isSome=true)
 (hx:(∃sz a l,ev s x= .d (.sl sz (a::l))∧z=false)∨∃ao n c,ev s x= .d (.v (.slice ao n c))∧z=ao.isNone) (hy:ev s y= .d (.v (.slice none n' c')))
 (hr:(op= .eql∧r=z)∨(op= .neq∧r=!z)):bI X ops s o {pv:= .d (.v (.bool r))}:=
 aM hd fun s' he _ a w c hc=>by
  have e1:=bM hc x;rw[he x (by simp[ho,Op.operands])]at e1;have h2:=cZ hc ((he y (by simp[ho,Op.operands])).trans hy);generalize hu:a.eval x=u at e1;obtain⟨i,d,zz,tk⟩:=ig ht;obtain⟨el,rfl⟩:∃el,d= .slice el:=by
   have:=tk.elem;obtain⟨el,WQ⟩:=Zf.1 hb;rw[WQ]at this;cases d<;>simp[gm]at this;exact⟨_,rfl⟩
  obtain⟨ao,n,cap,rfl,hz⟩:∃ao n cap,u= .slice ao n cap∧z=ao.isNone:=by
   rcases hx with⟨sz,b,l,hx,rfl⟩|⟨ao,n,cap,hx,rfl⟩
   ·rw[hx]at e1;have e1:=co e1;cases e1 with
    |sl _ _ b off cap=>exact⟨_,_,cap,rfl,rfl⟩
   ·rw[hx]at e1;have e1:=co e1;cases e1;exact⟨_,_,_,rfl,rfl⟩
  subst hz;refine⟨.bool r,?_,.d _ _ (.v _)⟩;rcases hr with⟨rfl,rfl⟩|⟨rfl,rfl⟩<;>simp[execOp,ho,hu,h2,eqGuard,binOp,tZ tk.und]
theorem kA {X:Cfg}{ops:Array Oper}{s:FS}{o:Oper}(hd:∀d,o.dst=some d→d < X.n){ti:TI}{op:BinOp}{t t':Nat}{x y:Operand}{r:Bool}(ho:o.op= .binOp op t x y t')(ht:aT X.P t=some ti)(hb:ti.kind=3)
 (hx:(∃k off,ev s x= .ptr k off)∨(∃k g sz i j,ev s x= .rp k g sz i j)∨∃ds,ev s x= .d (.ept ds)) (hy:ev s y= .d (.v (.pointer none)))
 (hr:(op= .eql∧r=false)∨(op= .neq∧r=true)):bI X ops s o {pv:= .d (.v (.bool r))}:=
 aM hd fun s' he _ a w c hc=>by
  have h1:∃ad,a.eval x= .pointer (some ad):=by
   have:=bM hc x;rw[he x (by simp[ho,Op.operands])]at this;generalize a.eval x=u at this;rcases hx with⟨k,off,hx⟩|⟨k,g,sz,i,j,hx⟩|⟨ds,hx⟩<;>rw[hx]at this
   ·cases this;exact⟨_,rfl⟩
   ·cases this;exact⟨_,rfl⟩
   ·have:=co this;cases this;exact⟨_,rfl⟩
  obtain⟨ad,h1⟩:=h1;have h2:=cZ hc ((he y (by simp[ho,Op.operands])).trans hy);obtain⟨i,d,z,tk⟩:=ig ht;obtain⟨el,rfl⟩:∃el,d= .pointer el:=by
   have:=tk.kind;rw[hb]at this;cases d<;>simp[pr]at this;exact⟨_,rfl⟩
  refine⟨.bool r,?_,.d _ _ (.v _)⟩;rcases hr with⟨rfl,rfl⟩|⟨rfl,rfl⟩<;>simp[execOp,ho,h1,h2,eqGuard,binOp,xm tk.und]
theorem xo {X:Cfg}{ops:Array Oper}{s:FS}{o:Oper}(hd:∀d,o.dst=some d→d < X.n){x:Operand}{k g sz i j:Nat}(ho:o.op= .nilCheck x)(hx:ev s x= .rp k g sz i j):bI X ops s o {pv:= .rp k g sz i j}:=
 aM hd fun s' he _ a w c hc=>by
  have:=bM hc x;rw[he x (by simp[ho,Op.operands]),hx]at this;generalize hu:a.eval x=u at this;cases this with
  |rp _ _ _ _ _ b n cap h=>exact⟨_,by simp[execOp,ho,hu],.rp k g sz i j b n cap h⟩
section
variable {X:Cfg}{ops:Array Oper}{e:cu}{hl:List Chunk}{o:Oper}{T:Nat→Option TI}{Q:Nat→Option Nat}(cp:TabOK X.P T Q)(hd:∀d,o.dst=some d→d < X.n){p:PV}{eff:List (Nat × Chunk)}{touch:List Nat}{side:Prop}
include hd
theorem JD {x y z:Operand}(ho:o.op= .pick x y z)(h:qC (dI e x) (dI e y) (dI e z)= .res p eff touch side)(_hs:side):bI X ops (bQ e hl) o {pv:=p,eff:=eff,touch:=touch}:=by
 unfold qC at h;split at h
 ·rename_i t hx;have key:=M4 (X:=X) (ops:=ops) (s:=bQ e hl) hd ho ((aD e hl x).trans hx);rw[aD,aD]at key;split at h
  ·rename_i a b ha hb;cases h;rw[ha,hb]at key;cases t<;>exact key
  ·cases h;exact key
 ·cases h
theorem PU {op:UnOp}{t:Nat}{x:Operand}(ho:o.op= .unOp op t x)(h:RZ op (dI e x)= .res p eff touch side)(_hs:side):bI X ops (bQ e hl) o {pv:=p,eff:=eff,touch:=touch}:=by
 unfold RZ at h;split at h
 ·rename_i b hx;cases h;exact PN hd ho ((aD e hl x).trans hx)
 ·rename_i k n hx;cases h;exact PO hd ho ((aD e hl x).trans hx)
 ·cases h
theorem Nc {x:Operand}(ho:o.op= .nilCheck x)(h:Jw (dI e x)= .res p eff touch side)(_hs:side):bI X ops (bQ e hl) o {pv:=p,eff:=eff,touch:=touch}:=by
 unfold Jw at h;split at h
 ·rename_i k off hx;cases h;have:=tb (X:=X) (ops:=ops) (s:=bQ e hl) hd ho (.inl ⟨k,off,(aD e hl x).trans hx⟩);rwa [aD,hx]at this
 ·rename_i k g sz i j hx;cases h;exact xo hd ho ((aD e hl x).trans hx)
 ·rename_i cs hx;cases h;have:=tb (X:=X) (ops:=ops) (s:=bQ e hl) hd ho (.inr ⟨cs,(aD e hl x).trans hx⟩);rwa [aD,hx]at this
 ·cases h
include cp in
theorem Nd {op:BinOp}{t t':Nat}{x y:Operand}(ho:o.op= .binOp op t x y t')(h:Jy (T t) (Q t) op (dI e x) (dI e y)= .res p eff touch side)(hs:side):bI X ops (bQ e hl) o {pv:=p,eff:=eff,touch:=touch}:=by
 unfold Jy at h;split at h
 ·rename_i k m k' n hx hy;split at h
  ·rename_i hk;subst hk;split at h
   ·cases h;exact xV hd ho ((aD e hl x).trans hx) ((aD e hl y).trans hy) hs (.inl ⟨rfl,rfl⟩)
   ·cases h;exact xV hd ho ((aD e hl x).trans hx) ((aD e hl y).trans hy) hs (.inr ⟨rfl,rfl⟩)
   ·split at h
    ·rename_i r hr;cases h;exact PP hd ho ((aD e hl x).trans hx) ((aD e hl y).trans hy) hr
    ·cases h
  ·split at h
   ·split at h
    ·rename_i r hr;cases h;exact Bj hd ho (.inl rfl) ((aD e hl x).trans hx) ((aD e hl y).trans hy) hr
    ·cases h
   ·split at h
    ·rename_i r hr;cases h;exact Bj hd ho (.inr rfl) ((aD e hl x).trans hx) ((aD e hl y).trans hy) hr
    ·cases h
   ·cases h
 ·rename_i m n hx hy;split at h
  ·cases h;exact GW hd ho ((aD e hl x).trans hx) ((aD e hl y).trans hy) hs
  ·cases h;exact Bd hd ho ((aD e hl x).trans hx) ((aD e hl y).trans hy) (.inl ⟨rfl,rfl⟩)
  ·cases h;exact Bd hd ho ((aD e hl x).trans hx) ((aD e hl y).trans hy) (.inr ⟨rfl,rfl⟩)
  ·cases h
 ·rename_i m n hx hy;split at h
  ·rename_i ti ht;cases h;exact xW hd ho (cp.t t _ ht) hs ((aD e hl x).trans hx) ((aD e hl y).trans hy) (.inl ⟨rfl,rfl⟩)
  ·rename_i ti ht;cases h;exact xW hd ho (cp.t t _ ht) hs ((aD e hl x).trans hx) ((aD e hl y).trans hy) (.inr ⟨rfl,rfl⟩)
  ·cases h
 ·rename_i hx hy;split at h
  ·rename_i ti ht;cases h;exact yg hd ho (cp.t t _ ht) hs ((aD e hl x).trans hx) ((aD e hl y).trans hy) (.inl ⟨rfl,rfl⟩)
  ·rename_i ti ht;cases h;exact yg hd ho (cp.t t _ ht) hs ((aD e hl x).trans hx) ((aD e hl y).trans hy) (.inr ⟨rfl,rfl⟩)
  ·cases h
 ·rename_i k off hx hy;split at h
  ·rename_i ti ht;cases h;exact kA hd ho (cp.t t _ ht) hs (.inl ⟨k,off,(aD e hl x).trans hx⟩) ((aD e hl y).trans hy) (.inl ⟨rfl,rfl⟩)
  ·rename_i ti ht;cases h;exact kA hd ho (cp.t t _ ht) hs (.inl ⟨k,off,(aD e hl x).trans hx⟩) ((aD e hl y).trans hy) (.inr ⟨rfl,rfl⟩)
  ·cases h
 ·rename_i k g sz i j hx hy;split at h
  ·rename_i ti ht;cases h;exact kA hd ho (cp.t t _ ht) hs (.inr (.inl ⟨k,g,sz,i,j,(aD e hl x).trans hx⟩)) ((aD e hl y).trans hy) (.inl ⟨rfl,rfl⟩)
  ·rename_i ti ht;cases h;exact kA hd ho (cp.t t _ ht) hs (.inr (.inl ⟨k,g,sz,i,j,(aD e hl x).trans hx⟩)) ((aD e hl y).trans hy) (.inr ⟨rfl,rfl⟩)
  ·cases h
 ·rename_i ds hx hy;split at h
  ·rename_i ti ht;cases h;exact kA hd ho (cp.t t _ ht) hs (.inr (.inr ⟨ds,(aD e hl x).trans hx⟩)) ((aD e hl y).trans hy) (.inl ⟨rfl,rfl⟩)
  ·rename_i ti ht;cases h;exact kA hd ho (cp.t t _ ht) hs (.inr (.inr ⟨ds,(aD e hl x).trans hx⟩)) ((aD e hl y).trans hy) (.inr ⟨rfl,rfl⟩)
  ·cases h
 ·rename_i sz a l n' c' hx hy;split at h
  ·rename_i ti ht;cases h;exact qE hd ho (cp.t t _ ht) hs (.inl ⟨_,_,_,(aD e hl x).trans hx,rfl⟩) ((aD e hl y).trans hy) (.inl ⟨rfl,rfl⟩)
  ·rename_i ti ht;cases h;exact qE hd ho (cp.t t _ ht) hs (.inl ⟨_,_,_,(aD e hl x).trans hx,rfl⟩) ((aD e hl y).trans hy) (.inr ⟨rfl,rfl⟩)
  ·cases h
 ·rename_i ao n c n' c' hx hy;split at h
  ·rename_i ti ht;cases h;exact qE hd ho (cp.t t _ ht) hs (.inr ⟨_,_,_,(aD e hl x).trans hx,rfl⟩) ((aD e hl y).trans hy) (.inl ⟨rfl,rfl⟩)
  ·rename_i ti ht;cases h;exact qE hd ho (cp.t t _ ht) hs (.inr ⟨_,_,_,(aD e hl x).trans hx,rfl⟩) ((aD e hl y).trans hy) (.inr ⟨rfl,rfl⟩)
  ·cases h
 ·rename_i ds es hx hy;split at h
  ·rename_i n xs ys hq h1 h2;split at h
   ·cases h;exact AS hd ho (cp.q t n hq) (.inl rfl) ((aD e hl x).trans hx) ((aD e hl y).trans hy) h1 h2 hs.1 hs.2
   ·cases h;have:=AS (X:=X) (ops:=ops) (s:=bQ e hl) hd ho (cp.q t n hq) (.inr rfl) ((aD e hl x).trans hx) ((aD e hl y).trans hy) h1 h2 hs.1 hs.2;simpa using this
   ·cases h
  ·cases h
 ·cases h
include cp in
theorem GZ {t f:Nat}{x:Operand}(ho:o.op= .fieldAddr t x f)(h:uO (T t) f (dI e x)= .res p eff touch side)(hs:side):bI X ops (bQ e hl) o {pv:=p,eff:=eff,touch:=touch}:=by
 unfold uO at h;split at h
 ·rename_i ti ht;split at h
  ·rename_i off sz hf;split at h
   ·rename_i ds hx;cases h;exact Jg hd ho (cp.t t ti ht) hf hs ((aD e hl x).trans hx)
   ·rename_i k o' hx;cases h;exact AV hd ho (cp.t t ti ht) hf hs ((aD e hl x).trans hx)
   ·rename_i k g sz' i j hx;cases h;exact DV hd ho (cp.t t ti ht) hf hs ((aD e hl x).trans hx)
   ·cases h
  ·cases h
 ·cases h
omit hd in
theorem r8 {α:Type}{l:List α}{j:Nat}{d:α}{r:List α}(h:l.drop j=d::r):l[j]? =some d:=by
 have:=Yk (xs:=l) (i:=j) (j:=0);rw[h]at this;simpa using this.symm
include cp in
theorem JE {t:Nat}{x:Operand}(ho:o.op= .load t x)(h:Bk (T t) (aG hl) (dI e x)= .res p eff touch side)(hs:side):bI X ops (bQ e hl) o {pv:=p,eff:=eff,touch:=touch}:=by
 unfold Bk at h;split at h
 ·rename_i ti ht;have ht:=cp.t t ti ht;split at h
  ·rename_i ds hx;have hx:=(aD e hl x).trans hx;split at h
   ·rename_i o8;cases h;exact AW hd ho ht hx hs (.inl ⟨o8,rfl⟩)
   ·rename_i o8;split at h
    ·rename_i d r;cases h;have hs':ti.size=1:=hs;exact AW hd ho ht hx (by rw[hs'];simp) (.inr ⟨by simpa using o8,hs',rfl⟩)
    ·cases h
  ·rename_i k off hx;have hx:=(aD e hl x).trans hx;split at h
   ·rename_i TT cells hk;split at h
    ·rename_i o8;cases h;exact AX hd ho ht hx (s:=bQ e hl) hk hs (.inl ⟨o8,rfl⟩)
    ·rename_i o8;split at h
     ·rename_i q r hc;cases h;have hs':ti.size=1:=hs;have hc':=r8 hc;exact AX hd ho ht hx (s:=bQ e hl) hk (by have:=(Xn.1 hc').1;omega) (.inr ⟨by simpa using o8,hs',hc'⟩)
     ·cases h
   ·cases h
  ·rename_i k g sz i j hx;have hx:=(aD e hl x).trans hx;split at h
   ·rename_i E sz' g' rows hk;split at h
    ·rename_i row bY;split at h
     ·rename_i o8;cases h;obtain⟨rfl,rfl,hj⟩:=hs;exact x6 hd ho ht hx (s:=bQ e hl) hk bY hj (.inl ⟨o8,rfl⟩)
     ·rename_i o8;split at h
      ·rename_i d r hc;cases h;obtain⟨rfl,rfl,hs',hj⟩:=hs;have hc':=r8 hc;exact x6 hd ho ht hx (s:=bQ e hl) hk bY (by omega) (.inr ⟨by simpa using o8,hs',hc'⟩)
      ·cases h
    ·cases h
   ·cases h
  ·cases h
 ·cases h
include cp in
theorem Nf {op:BinOp}{t t':Nat}{x:Operand}(ho:o.op= .binOp op t x (.const .nilIface) t')(h:Jz (T t) op (dI e x)= .res p eff touch side)(hs:side):bI X ops (bQ e hl) o {pv:=p,eff:=eff,touch:=touch}:=by
 unfold Jz at h;split at h
 ·rename_i ti ht hx;cases h;exact qB hd ho (cp.t _ _ ht) hs ((aD e hl x).trans hx) (.inl rfl) (.inl ⟨rfl,rfl⟩)
 ·rename_i ti ht hx;cases h;exact qB hd ho (cp.t _ _ ht) hs ((aD e hl x).trans hx) (.inl rfl) (.inr ⟨rfl,rfl⟩)
 ·rename_i ti ht hx;cases h;exact qB hd ho (cp.t _ _ ht) hs ((aD e hl x).trans hx) (.inr rfl) (.inl ⟨rfl,rfl⟩)
 ·rename_i ti ht hx;cases h;exact qB hd ho (cp.t _ _ ht) hs ((aD e hl x).trans hx) (.inr rfl) (.inr ⟨rfl,rfl⟩)
 ·cases h
include cp in
theorem G0 {t:Nat}{x y:Operand}(ho:o.op= .indexAddr t x y)(h:uP T (T t) (aG hl) (dI e x) (dI e y)= .res p eff touch side)(hs:side):bI X ops (bQ e hl) o {pv:=p,eff:=eff,touch:=touch}:=by
 unfold uP at h;split at h
 ·rename_i ti ht;split at h
  ·rename_i el he;split at h
   ·rename_i te gL;split at h
    ·rename_i kd n hy;have hy:=(aD e hl y).trans hy;split at h
     ·rename_i sz rows hx;split at h
      ·rename_i row bY;cases h;exact Jj hd ho (cp.t t ti ht) he (cp.t el te gL) hs.1 ((aD e hl x).trans hx) hy hs.2 bY
      ·cases h
     ·rename_i k g hx;split at h
      ·rename_i e' sz g' rows hk;cases h;obtain⟨rfl,rfl,h1,h2,h3⟩:=hs;exact A0 hd ho (cp.t t ti ht) he (cp.t _ te gL) h1 ((aD e hl x).trans hx) (s:=bQ e hl) hk hy h2 h3
      ·cases h
     ·rename_i k g sz st m hx;cases h;exact A8 hd ho (cp.t t ti ht) he (cp.t _ te gL) hs.1 ((aD e hl x).trans hx) (s:=bQ e hl) hy hs.2.1 hs.2.2
     ·cases h
    ·cases h
   ·cases h
  ·split at h
   ·rename_i m el k off kd n ha hx hy;split at h
    ·rename_i te gL;cases h;exact D6 hd ho (cp.t t ti ht) ha (cp.t el te gL) rfl ((aD e hl x).trans hx) ((aD e hl y).trans hy) hs.1 hs.2
    ·cases h
   ·cases h
 ·cases h
include cp in
theorem G1 {t:Nat}{x y:Operand}(ho:o.op= .index t x y)(h:uQ T (T t) (dI e x) (dI e y)= .res p eff touch side)(hs:side):bI X ops (bQ e hl) o {pv:=p,eff:=eff,touch:=touch}:=by
 unfold uQ at h;split at h
 ·rename_i ti ht;split at h
  ·rename_i a kd n hx hy;cases h;exact Be hd ho (cp.t t ti ht) hs.1 ((aD e hl x).trans hx) ((aD e hl y).trans hy) hs.2.1 hs.2.2
  ·rename_i ds kd n hx hy;split at h
   ·rename_i m el ha;split at h
    ·rename_i te gL;split at h
     ·rename_i q hq;cases h;exact Bh hd ho (cp.t t ti ht) ha (cp.t el te gL) hs.1 hs.2.1 ((aD e hl x).trans hx) ((aD e hl y).trans hy) hs.2.2.1 hs.2.2.2 hq
     ·cases h
    ·cases h
   ·cases h
  ·cases h
 ·cases h
theorem JF {x:Operand}{i:Nat}(ho:o.op= .extract x i)(h:yf (dI e x) i= .res p eff touch side)(_hs:side):bI X ops (bQ e hl) o {pv:=p,eff:=eff,touch:=touch}:=by
 unfold yf at h;split at h
 ·rename_i ds hx;split at h
  ·rename_i d hi;cases h;exact DU hd ho ((aD e hl x).trans hx) hi
  ·cases h
 ·rename_i ds hx;split at h
  ·rename_i d hi;cases h;exact AY hd ho ((aD e hl x).trans hx) hi
  ·cases h
 ·cases h
omit hd in
theorem r9:∀{parts:List (Nat × Operand)}{pd:List (Nat × List PV)},r6 e parts=some pd→pd.length=parts.length∧∀(j:Nat) (i:Nat) (x:Operand),parts[j]? =some (i,x)→pd[j]? =some (i,cR (dI e x))∧xY (dI e x)=true
 |[],pd,h=>by cases h;simp
 |(i,x)::l,pd,h=>by
  unfold r6 at h;split at h
  ·rename_i bF;split at h
   ·rename_i pd' h2;cases h;obtain⟨q1,q2⟩:=r9 h2;refine⟨by simp[q1],fun j i' y hj=>?_⟩;cases j with
    |zero=>
     simp at hj;obtain⟨rfl,rfl⟩:=hj;exact⟨rfl,bF⟩
    |succ j=>simpa using q2 j i' y (by simpa using hj)
   ·cases h
  ·cases h
include cp in
theorem G2 {t:Nat}{parts:List (Nat × Operand)}(ho:o.op= .build t ⟨parts⟩)(h:uR T (T t) e parts= .res p eff touch side)(_hs:side):bI X ops (bQ e hl) o {pv:=p,eff:=eff,touch:=touch}:=by
 unfold uR at h;split at h
 ·rename_i ti ht;split at h
  ·split at h
   ·rename_i n el ha;split at h
    ·rename_i te pd gL hp;split at h
     ·rename_i out hf;cases h;obtain⟨q1,q2⟩:=r9 hp;refine Bi hd ho (cp.t t ti ht) ha (cp.t el te gL) (pd:=pd) (by simpa using q1) (fun j i x hj=>?_) hf;obtain⟨r1,r2⟩:=q2 j i x (by simpa using hj);rw[aD];exact⟨r1,r2⟩
     ·cases h
    ·cases h
   ·cases h
  ·rename_i f fs gS;split at h
   ·rename_i pd hp;split at h
    ·rename_i out hf;cases h;obtain⟨q1,q2⟩:=r9 hp;refine Jl hd ho (cp.t t ti ht) (by rw[gS];simp) (pd:=pd) (by simpa using q1) (fun j i x hj=>?_) (by rw[←hf,gS]);obtain⟨r1,r2⟩:=q2 j i x (by simpa using hj);rw[aD];exact⟨r1,r2⟩
    ·cases h
   ·cases h
 ·cases h
omit hd in
theorem Bp:∀{parts:List (Nat × Operand)}{n:Nat}{rows:List (List PV)},Bl e n parts=some rows→parts.length=rows.length∧∀(j:Nat) (i:Nat) (x:Operand),parts[j]? =some (i,x)→
 i=n+j∧rows[j]? =some (cR (dI e x))∧xY (dI e x)=true
 |[],n,rows,h=>by cases h;simp
 |(i,x)::l,n,rows,h=>by
  unfold Bl at h;split at h
  ·rename_i bF;simp only[Xy,beq_iff_eq]at bF;split at h
   ·rename_i rows' h2;cases h;obtain⟨q1,q2⟩:=Bp h2;refine⟨by simp[q1],fun j i' y hj=>?_⟩;cases j with
    |zero=>
     simp at hj;obtain⟨rfl,rfl⟩:=hj;exact⟨by omega,rfl,bF.1⟩
    |succ j=>
     obtain⟨r0,r1,r3⟩:=q2 j i' y (by simpa using hj);exact⟨by omega,by simpa using r1,r3⟩
   ·cases h
  ·cases h
omit hd in
theorem JG:∀{rows:List (List PV)}{ds:List (List D)},RC rows=some ds→rows.length=ds.length∧∀(j:Nat) (r:List PV),rows[j]? =some r→∃d,ds[j]? =some d∧uF r=some d
 |[],ds,h=>by cases h;simp
 |r::l,ds,h=>by
  unfold RC at h;split at h
  ·rename_i d ds' h1 h2;cases h;obtain⟨q1,q2⟩:=JG h2;refine⟨by simp[q1],fun j x hj=>?_⟩;cases j with
   |zero=>simp at hj;subst hj;exact⟨d,rfl,h1⟩
   |succ j=>simpa using q2 j x (by simpa using hj)
  ·cases h
omit hd in
theorem pK {sz:Nat}:∀{rows:List (List PV)},uS sz rows→∀r∈rows,r.length=sz
 |r::rows,h,q,hq=>by
  rcases X7.1 hq with rfl|hq
  ·exact h.1
  ·exact pK h.2 q hq
include cp in
theorem Ng (li:X.m≤hl.length){t n:Nat}{parts:List (Nat × Operand)}(ho:o.op= .buildSlice t n ⟨parts⟩)(h:JA T (T t) hl.length e n parts= .res p eff touch side)(hs:side):bI X ops (bQ e hl) o {pv:=p,eff:=eff,touch:=touch}:=by
 unfold JA at h;split at h
 ·rename_i ti ht;split at h
  ·rename_i el he;split at h
   ·rename_i te gL;split at h
    ·cases h;exact uL hd ho (cp.t t ti ht) he (cp.t el te gL) (s:=bQ e hl) (go hl) (by omega)
    ·rename_i n' parts';split at h
     ·rename_i rows hr;obtain⟨q1,q2⟩:=Bp hr;split at h
      ·rename_i ds ft;have ft:RC rows=some ds:=by
        by_cases hq:te.kind=2
        ·rw[if_pos hq]at ft;cases ft
        ·rw[if_neg hq]at ft;exact ft
       cases h;obtain⟨h1,h2,h3,h4⟩:=hs;obtain⟨g1,g2⟩:=JG ft;refine xk hd ho (cp.t t ti ht) he (cp.t el te gL) rfl h1 (by omega) h2 (by omega) (by simp;omega) (fun j i x hj=>?_);obtain⟨r0,r1,r3⟩:=q2 j i x (by simpa using hj);obtain⟨d,g3,g4⟩:=g2 j _ r1;have bT:=pK h4 _ (Xl r1);refine⟨by omega,d,g3,by rw[aD];exact g4,by rw[aD];exact r3,?_⟩;have:=congrArg I' (qx g4);rw[XC]at this;omega
      ·cases h;obtain⟨h1,h2,h3,h4⟩:=hs;refine uK hd ho (cp.t t ti ht) he (cp.t el te gL) rfl h1 (by omega) h2 h3 (by simp;omega) (s:=bQ e hl) (go hl) (by omega) (fun j i x hj=>?_);obtain⟨r0,r1,r3⟩:=q2 j i x (by simpa using hj);rw[aD];exact⟨by omega,r1,r3,pK h4 _ (Xl r1)⟩
     ·cases h
    ·cases h
   ·cases h
  ·cases h
 ·cases h
include cp in
theorem JH (li:X.m≤hl.length){t:Nat}{x y:Operand}(ho:o.op= .makeSlice t x y)(h:Bm T (T t) hl.length (dI e x) (dI e y)= .res p eff touch side)(hs:side):bI X ops (bQ e hl) o {pv:=p,eff:=eff,touch:=touch}:=by
 unfold Bm at h;split at h
 ·rename_i ti ht;split at h
  ·rename_i el he;split at h
   ·rename_i te gL;split at h
    ·rename_i zv kx n ky m hz hx hy;cases h;obtain⟨h1,h2,h3,h4⟩:=hs;subst h1;exact zB hd ho (cp.t t ti ht) he (cp.t el te gL) hz h2 h3 h4 (s:=bQ e hl) (by rw[aD];exact hx) (by rw[aD];exact hy) (go hl) (by omega)
    ·cases h
   ·cases h
  ·cases h
 ·cases h
include cp in
theorem JI {src dst:Nat}{x:Operand}(ho:o.op= .convert src dst x)(h:Bn T (T src) (T dst) (dI e x)= .res p eff touch side)(hs:side):bI X ops (bQ e hl) o {pv:=p,eff:=eff,touch:=touch}:=by
 unfold Bn at h;split at h
 ·rename_i ts td h1 h2;split at h
  ·rename_i k k' n hi hx;cases h;exact D3 hd ho (cp.t _ _ h1) (cp.t _ _ h2) hi ((aD e hl x).trans hx)
  ·rename_i rows hi hx;split at h
   ·rename_i el he;split at h
    ·rename_i te gL;split at h
     ·rename_i xs hb;cases h;exact Bg hd ho (cp.t _ _ h1) (cp.t _ _ h2) he (cp.t _ _ gL) hs.1 hs.2 ((aD e hl x).trans hx) hb
     ·cases h
    ·cases h
   ·cases h
  ·cases h
 ·cases h
include cp in
theorem Nh {t:Nat}{x:Operand}(ho:o.op= .call ⟨.builtin .len,⟨[x]⟩,⟨[t]⟩⟩)(h:JB (T t) (aG hl) (dI e x)= .res p eff touch side)(hs:side):bI X ops (bQ e hl) o {pv:=p,eff:=eff,touch:=touch}:=by
 unfold JB at h;split at h
 ·rename_i ti ht;split at h
  ·rename_i el he;split at h
   ·rename_i sz rows hx;cases h;exact Jk (ty:=0) hd ho (cp.t _ _ ht) he ((aD e hl x).trans hx) (.inl ⟨_,_,rfl,rfl⟩)
   ·rename_i hx;cases h;exact Jk (ty:=0) hd ho (cp.t _ _ ht) he ((aD e hl x).trans hx) (.inr ⟨rfl,rfl⟩)
   ·rename_i k g hx;split at h
    ·rename_i E sz g' rows hk;cases h;subst hs;exact GM hd ho (cp.t _ _ ht) he ((aD e hl x).trans hx) (s:=bQ e hl) hk
    ·cases h
   ·rename_i k g sz st n hx;cases h;exact GS hd ho (cp.t _ _ ht) he ((aD e hl x).trans hx)
   ·cases h
  ·split at h
   ·rename_i a hx;cases h;exact GY hd ho (cp.t _ _ ht) hs ((aD e hl x).trans hx)
   ·cases h
 ·cases h
omit hd in
theorem Ni {sz:Nat}{y:PV}{news:List (List PV)}{ty:List Nat}(h:Nb (aG hl) sz y=some (news,ty)):SrcP (bQ e hl) sz y news ty:=by
 unfold Nb at h;split at h
 ·split at h
  ·rename_i e1;subst e1;cases h;exact .sl _
  ·cases h
 ·cases h;exact .nil _ _
 ·split at h
  ·rename_i E sz' g' rows hk;split at h
   ·rename_i e1;obtain⟨rfl,rfl⟩:=e1;cases h;exact .own _ _ _ _ hk
   ·cases h
  ·cases h
 ·split at h
  ·rename_i E sz' g' rows hk;split at h
   ·rename_i e1;obtain⟨rfl,rfl,rfl⟩:=e1;cases h;exact .osl _ _ _ _ _ _ hk
   ·cases h
  ·cases h
 ·cases h
include cp in
theorem Nj (li:X.m≤hl.length){t:Nat}{x y:Operand}(ho:o.op= .call ⟨.builtin .append,⟨[x,y]⟩,⟨[t,t]⟩⟩)(h:JC T (T t) hl.length (aG hl) (dI e x) (dI e y)= .res p eff touch side)(hs:side):bI X ops (bQ e hl) o {pv:=p,eff:=eff,touch:=touch}:=by
 unfold JC at h;split at h
 ·rename_i ti ht;split at h
  ·rename_i el he;split at h
   ·rename_i te gL;split at h
    ·cases h
    ·rename_i hz;have rH:0 < te.size:=by omega
     have DL:0 < te.bytes:=by omega
     have big:∀m:Nat,m*te.bytes≤140737488355328→m≤9223372036854775807:=fun m hm=>by
      have:=Nat.le_mul_of_pos_right m DL;omega
     split at h
     ·rename_i news ty rG;have rG:=Ni (e:=e) (hl:=hl) rG;rw[←aD e hl]at rG;split at h
      ·rename_i k g hx;split at h
       ·rename_i e' sz g' rows hk;cases h;obtain⟨rfl,rfl,rfl,hb⟩:=hs;exact GN hd ho (cp.t _ _ ht) he (cp.t _ _ gL) rfl rH ((aD e hl x).trans hx) (s:=bQ e hl) hk rG (big _ hb) hb
       ·cases h
      ·rename_i hx;cases h;exact zt hd ho (cp.t _ _ ht) he (cp.t _ _ gL) rfl rH ((aD e hl x).trans hx) (s:=bQ e hl) (go hl) (by omega) rG (big _ hs) hs
      ·rename_i k g sz st n hx;split at h
       ·rename_i e' sz' g' rows hk;cases h;obtain⟨rfl,rfl,rfl,rfl,rfl,h1,h2⟩:=hs;exact zu hd ho (cp.t _ _ ht) he (cp.t _ _ gL) rfl rH ((aD e hl x).trans hx) (s:=bQ e hl) hk h1 rG h2
       ·cases h
      ·cases h
     ·cases h
   ·cases h
  ·cases h
 ·cases h
include cp in
theorem G3 {t:Nat}{x:Operand}{lo hi mx:Option Operand}(ho:o.op= .slice t x lo hi mx)(h:uU T (T t) (aG hl) (dI e x) (lo.map (dI e)) (hi.map (dI e)) (mx.map (dI e))= .res p eff touch side)(hs:side):bI X ops (bQ e hl) o {pv:=p,eff:=eff,touch:=touch}:=by
 have hm:∀y:Option Operand,y.map (dI e)=y.map (ev (bQ e hl)):=fun y=>by cases y<;>simp[aD]
 rw[hm lo,hm hi]at h;unfold uU at h;split at h
 ·rename_i ti ht;split at h
  ·rename_i el he;split at h
   ·rename_i te gL;split at h
    ·rename_i Do;have Do:mx=none:=by simpa using Do
     subst Do;split at h
     ·rename_i sz rows hx;split at h
      ·rename_i l r iZ jX;cases h;exact GQ hd ho (cp.t _ _ ht) he (cp.t _ _ gL) hs.1 ((aD e hl x).trans hx) iZ jX hs.2.1 hs.2.2
      ·cases h
     ·rename_i k g hx;split at h
      ·rename_i e' sz g' hk;split at h
       ·rename_i l r iZ jX;cases h;obtain⟨rfl,rfl,h1,rfl,rfl⟩:=hs;exact zw hd ho (cp.t _ _ ht) he (cp.t _ _ gL) h1 ((aD e hl x).trans hx) (s:=bQ e hl) hk iZ jX
       ·cases h
      ·rename_i e' sz g' rows bB hk;split at h
       ·rename_i l r iZ jX;cases h;obtain⟨rfl,rfl,h1,h2,h3,h4⟩:=hs;exact A6 hd ho (cp.t _ _ ht) he (cp.t _ _ gL) h1 ((aD e hl x).trans hx) (s:=bQ e hl) hk h2 iZ jX h3 h4
       ·cases h
      ·cases h
     ·rename_i k g sz st n hx;split at h
      ·rename_i e' sz' g' rows hk;split at h
       ·rename_i l r iZ jX;cases h;obtain⟨rfl,rfl,rfl,h1,h2,h3,h4⟩:=hs;exact A7 hd ho (cp.t _ _ ht) he (cp.t _ _ gL) h1 ((aD e hl x).trans hx) (s:=bQ e hl) hk h2 iZ jX h3 h4
       ·cases h
      ·cases h
     ·cases h
    ·rename_i m Do;split at h
     ·rename_i k g k1 n1 k2 n2 k3 n3 hx iZ jX;split at h
      ·rename_i e' sz g' rows hk;cases h;obtain⟨rfl,rfl,h1,h2,h3,h4,h5,h6⟩:=hs;cases lo with
       |none=>cases iZ
       |some y1=>cases hi with
        |none=>cases jX
        |some y2=>cases mx with
         |none=>cases Do
         |some y3=>
          simp only[Ye,XX.injEq]at iZ jX Do;exact GR hd ho (cp.t _ _ ht) he (cp.t _ _ gL) h1 ((aD e hl x).trans hx) (s:=bQ e hl) hk h2 iZ jX ((aD e hl y3).trans Do) h3 h4 h5 h6
      ·cases h
     ·cases h
   ·cases h
  ·split at h
   ·rename_i a hx Do;have Do:mx=none:=by simpa using Do
    subst Do;split at h
    ·rename_i l r iZ jX;cases h;exact Bf hd ho (cp.t _ _ ht) hs.1 ((aD e hl x).trans hx) iZ jX hs.2.1 hs.2.2
    ·cases h
   ·cases h
 ·cases h
include cp in
theorem G4 {t:Nat}{x:Operand}(ho:o.op= .call ⟨.builtin .clear,⟨[x]⟩,⟨[t]⟩⟩)(h:uV T (T t) (aG hl) (dI e x)= .res p eff touch side)(hs:side):bI X ops (bQ e hl) o {pv:=p,eff:=eff,touch:=touch}:=by
 unfold uV at h;split at h
 ·rename_i ti ht;split at h
  ·rename_i el he;split at h
   ·rename_i te gL;split at h
    ·rename_i k g sz st n hx;split at h
     ·rename_i e' sz' g' rows hk;cases h;obtain⟨rfl,rfl,rfl,h1,h2,h3⟩:=hs;exact A5 hd ho (cp.t _ _ ht) he (cp.t _ _ gL) h1 ((aD e hl x).trans hx) (s:=bQ e hl) hk h2 h3
     ·cases h
    ·cases h
   ·cases h
  ·cases h
 ·cases h
include cp in
theorem G5 {t:Nat}{x y:Operand}(ho:o.op= .store t x y)(h:uT (T t) (aG hl) o.dst (dI e x) (dI e y)= .res p eff touch side)(hs:side):bI X ops (bQ e hl) o {pv:=p,eff:=eff,touch:=touch}:=by
 unfold uT at h;split at h
 ·rename_i ti ht sP;split at h
  ·rename_i k off hx;split at h
   ·rename_i TT cells hk;split at h
    ·rename_i bF;cases h;have:=Jn (X:=X) (ops:=ops) hd ho sP (cp.t _ _ ht) ((aD e hl x).trans hx) (s:=bQ e hl) hk (y:=y) (by rw[aD];exact bF) (by rw[aD];exact hs.1) hs.2;rwa [aD]at this
    ·cases h
   ·cases h
  ·rename_i k g sz i j hx;split at h
   ·rename_i E sz' g' rows hk;split at h
    ·rename_i row bY;split at h
     ·rename_i bF;cases h;obtain⟨rfl,rfl,h1,h2⟩:=hs;have:=DY (X:=X) (ops:=ops) hd ho sP (cp.t _ _ ht) ((aD e hl x).trans hx) (s:=bQ e hl) hk bY (y:=y) (by rw[aD];exact bF) (by rw[aD];exact h1) h2;rwa [aD]at this
     ·cases h
    ·cases h
   ·cases h
  ·cases h
 ·cases h
theorem Bq (li:X.m≤hl.length){t:Nat}(ho:o.op= .makeMap t none)(h:nY (T t) hl.length= .res p eff touch side):bI X ops (bQ e hl) o {pv:=p,eff:=eff,touch:=touch}:=by
 unfold nY at h;split at h
 ·split at h
  ·cases h;exact D2 hd ho (s:=bQ e hl) (go hl) (by omega)
  ·cases h
 ·cases h
include cp in
theorem G6 (li:X.m≤hl.length){t:Nat}{m:Operand}(ho:o.op= .range t m)(h:uW (T t) (aG hl) hl.length (dI e m)= .res p eff touch side)(hs:side):bI X ops (bQ e hl) o {pv:=p,eff:=eff,touch:=touch}:=by
 unfold uW at h;split at h
 ·rename_i ti ht;split at h
  ·rename_i n sB SK;split at h
   ·rename_i k hm;split at h
    ·rename_i n' sB' ents hk;cases h;obtain⟨rfl,rfl⟩:=hs;exact Ju (X:=X) (ops:=ops) hd ho (cp.m _ _ _ _ ht SK) ((aD e hl m).trans hm) (s:=bQ e hl) hk (go hl) (by omega)
    ·cases h
   ·cases h
  ·cases h
 ·cases h
omit cp in
theorem G7 {x:Operand}(ho:o.op= .entry x)(h:uX (aG hl) (dI e x)= .res p eff touch side):bI X ops (bQ e hl) o {pv:=p,eff:=eff,touch:=touch}:=by
 unfold uX at h;split at h
 ·rename_i k hx;split at h
  ·rename_i n sB ents seen hk;split at h
   ·rename_i i hi;split at h
    ·rename_i kv Gz;cases h;exact Jv (X:=X) (ops:=ops) hd ho ((aD e hl x).trans hx) (s:=bQ e hl) hk hi Gz
    ·cases h
   ·cases h
  ·cases h
 ·cases h
include cp in
theorem D7 {t:Nat}{m x:Operand}{ok:Bool}(ho:o.op= .lookup t m x ok)(h:qD (T t) (aG hl) (dI e m) (dI e x) ok= .res p eff touch side)(hs:side):bI X ops (bQ e hl) o {pv:=p,eff:=eff,touch:=touch}:=by
 unfold qD at h;split at h
 ·rename_i ti ht;split at h
  ·rename_i n sB SK;split at h
   ·rename_i k hm;split at h
    ·rename_i n' sB' ents hk;split at h
     ·rename_i xs hx;cases h;obtain⟨rfl,rfl,h3⟩:=hs;exact GU (X:=X) (ops:=ops) hd ho (cp.m _ _ _ _ ht SK) ((aD e hl m).trans hm) (s:=bQ e hl) hk (by rw[aD];exact hx) h3
     ·cases h
    ·cases h
   ·cases h
  ·cases h
 ·cases h
include cp in
theorem yi {t:Nat}{m x y:Operand}(ho:o.op= .mapUpdate t m x y∨o.op= .insert t m x y)(h:r7 (T t) (aG hl) o.dst (dI e m) (dI e x) (dI e y)= .res p eff touch side)(hs:side):bI X ops (bQ e hl) o {pv:=p,eff:=eff,touch:=touch}:=by
 unfold r7 at h;split at h
 ·rename_i ti ht sP;split at h
  ·rename_i n sB SK;split at h
   ·rename_i k hm;split at h
    ·rename_i n' sB' ents hk;split at h
     ·rename_i xs v hx hy;cases h;obtain⟨rfl,rfl,h3⟩:=hs;exact zy (X:=X) (ops:=ops) hd ho sP (cp.m _ _ _ _ ht SK) ((aD e hl m).trans hm) (s:=bQ e hl) hk (by rw[aD];exact hx) h3 ((aD e hl y).trans hy)
     ·cases h
    ·cases h
   ·cases h
  ·cases h
 ·cases h
end
section
variable {X:Cfg}{ops:Array Oper}{e:cu}{hl:List Chunk}{o:Oper}{T:Nat→Option TI}{Q:Nat→Option Nat}(cp:TabOK X.P T Q)(hd:∀d,o.dst=some d→d < X.n)
include cp hd
theorem JJ (li:X.m≤hl.length){p:PV}{eff:List (Nat × Chunk)}{touch:List Nat}{side:Prop}(h:MG T Q e hl o= .res p eff touch side)(hs:side):bI X ops (bQ e hl) o {pv:=p,eff:=eff,touch:=touch}:=by
 unfold MG at h;split at h
 ·rename_i x ho;cases h;have:=M3 (X:=X) (ops:=ops) (s:=bQ e hl) hd ho;rwa [aD]at this
 ·rename_i x ho;cases h;have:=GK (X:=X) (ops:=ops) (s:=bQ e hl) hd ho;rwa [aD]at this
 ·rename_i ho;exact JD hd ho h hs
 ·rename_i ho;exact PU hd ho h hs
 ·rename_i ho;exact Nc hd ho h hs
 ·rename_i ho;exact Nf cp hd ho h hs
 ·rename_i ho;exact Nd cp hd ho h hs
 ·rename_i ho;exact GZ cp hd ho h hs
 ·rename_i ho;exact JE cp hd ho h hs
 ·rename_i ho;exact G0 cp hd ho h hs
 ·rename_i ho;exact G1 cp hd ho h hs
 ·rename_i ho;exact JF hd ho h hs
 ·rename_i t ho;split at h
  ·rename_i ti ht;cases h;exact Jm hd ho (cp.t _ _ ht) (s:=bQ e hl) (go hl) (by omega)
  ·cases h
 ·rename_i t x ho;split at h
  ·rename_i bF;cases h;have:=PQ (X:=X) (ops:=ops) (s:=bQ e hl) hd ho (go hl) (by omega) (by rw[aD];exact bF);rwa [aD]at this
  ·cases h
 ·rename_i ho;exact G5 cp hd ho h hs
 ·rename_i ho;exact G2 cp hd ho h hs
 ·rename_i ho;exact Ng cp hd li ho h hs
 ·rename_i g caps ho;cases h;have:=AZ (X:=X) (ops:=ops) (s:=bQ e hl) hd ho;have e1:(List.map (ev (bQ e hl)) caps)=caps.map (dI e):=Zr fun x _=>aD e hl x;simp only at this;rwa [e1]at this
 ·rename_i ho;exact JI cp hd ho h hs
 ·rename_i ho;exact Nh cp hd ho h hs
 ·rename_i ho;exact G3 cp hd ho h hs
 ·rename_i ho;exact G4 cp hd ho h hs
 ·rename_i x y t t' ho;split at h
  ·rename_i e1;subst e1;exact Nj cp hd li ho h hs
  ·cases h
 ·rename_i x y tys ho;split at h
  ·rename_i k m k' n hx hy;split at h
   ·rename_i e1;subst e1;cases h;exact PR hd ho ((aD e hl x).trans hx) ((aD e hl y).trans hy)
   ·cases h
  ·cases h
 ·rename_i x y tys ho;split at h
  ·rename_i k m k' n hx hy;split at h
   ·rename_i e1;subst e1;cases h;exact PS hd ho ((aD e hl x).trans hx) ((aD e hl y).trans hy)
   ·cases h
  ·cases h
 ·unfold Bo at h;split at h<;>cases h
 ·rename_i ho;exact JH cp hd li ho h hs
 ·rename_i ho;exact Bq hd li ho h
 ·rename_i ho;exact D7 cp hd ho h hs
 ·rename_i ho;exact G6 cp hd li ho h hs
 ·rename_i ho;exact G7 hd ho h
 ·rename_i ho;exact yi cp hd (.inl ho) h hs
 ·rename_i ho;exact yi cp hd (.inr ho) h hs
 ·cases h
omit cp hd in
theorem JK {g:Nat}{ps:List PV}(h:MG T Q e hl o= .call g ps):∃(fo:Operand) (args:List Operand) (tys:Array Nat) (caps:List PV),o.op= .call ⟨.value fo,⟨args⟩,tys⟩∧(dI e fo= .clo g caps∨∃cd:List D,dI e fo= .d (.clo g cd)∧caps=cd.map .d)∧ps=args.map (dI e)++caps:=by
 have key:∀(fo:Operand) (args:List Operand) (tys:Array Nat),o.op= .call ⟨.value fo,⟨args⟩,tys⟩→Bo (dI e fo) (args.map (dI e))= .call g ps→∃(fo:Operand) (args:List Operand) (tys:Array Nat) (caps:List PV),o.op= .call ⟨.value fo,⟨args⟩,tys⟩∧(dI e fo= .clo g caps∨∃cd:List D,dI e fo= .d (.clo g cd)∧caps=cd.map .d)∧ps=args.map (dI e)++caps:=by
  intro fo args tys ho h;unfold Bo at h;split at h
  ·rename_i g' caps ON;cases h;exact⟨fo,args,tys,caps,ho,.inl ON,rfl⟩
  ·rename_i g' cd ON;cases h;exact⟨fo,args,tys,_,ho,.inr ⟨cd,ON,rfl⟩,rfl⟩
  ·cases h
 unfold MG at h;split at h<;>first
  |(rename_i ho;exact key _ _ _ ho h)
  |(exfalso;revert h;unfold qC;repeat(first|(split)|(intro h;cases h)))
  |(exfalso;revert h;unfold RZ;repeat(first|(split)|(intro h;cases h)))
  |(exfalso;revert h;unfold Jw;repeat(first|(split)|(intro h;cases h)))
  |(exfalso;revert h;unfold Jz;repeat(first|(split)|(intro h;cases h)))
  |(exfalso;revert h;unfold Jy;repeat(first|(split)|(intro h;cases h)))
  |(exfalso;revert h;unfold uO;repeat(first|(split)|(intro h;cases h)))
  |(exfalso;revert h;unfold Bk;repeat(first|(split)|(intro h;cases h)))
  |(exfalso;revert h;unfold uQ;repeat(first|(split)|(intro h;cases h)))
  |(exfalso;revert h;unfold uP;repeat(first|(split)|(intro h;cases h)))
  |(exfalso;revert h;unfold yf;repeat(first|(split)|(intro h;cases h)))
  |(exfalso;revert h;unfold uT;repeat(first|(split)|(intro h;cases h)))
  |(exfalso;revert h;unfold uR;repeat(first|(split)|(intro h;cases h)))
  |(exfalso;revert h;unfold JA;repeat(first|(split)|(intro h;cases h)))
  |(exfalso;revert h;unfold Bn;repeat(first|(split)|(intro h;cases h)))
  |(exfalso;revert h;unfold JB;repeat(first|(split)|(intro h;cases h)))
  |(exfalso;revert h;unfold JC;repeat(first|(split)|(intro h;cases h)))
  |(exfalso;revert h;unfold uU;repeat(first|(split)|(intro h;cases h)))
  |(exfalso;revert h;unfold uV;repeat(first|(split)|(intro h;cases h)))
  |(exfalso;revert h;unfold Bm;repeat(first|(split)|(intro h;cases h)))
  |(exfalso;revert h;unfold nY;repeat(first|(split)|(intro h;cases h)))
  |(exfalso;revert h;unfold qD;repeat(first|(split)|(intro h;cases h)))
  |(exfalso;revert h;unfold uW;repeat(first|(split)|(intro h;cases h)))
  |(exfalso;revert h;unfold uX;repeat(first|(split)|(intro h;cases h)))
  |(exfalso;revert h;unfold r7;repeat(first|(split)|(intro h;cases h)))
  |(exfalso;revert h;repeat(first|(split)|(intro h;cases h)))
end
def gp (e:cu)(dst:Option Nat)(p:PV):cu:=
 match dst with
 |some d=>(d,p)::e
 |none=>e
def bw:List Chunk→Nat→Chunk→List Chunk
 |[],0,c=>[c]
 |[],_+1,_=>[]
 |_::l,0,c=>c::l
 |a::l,k+1,c=>a::bw l k c
def pL:List (Nat × Chunk)→List Chunk→List Chunk
 |[],h=>h
 |(k,c)::l,h=>bw (pL l h) k c
theorem gF:∀{h:List Chunk}{k:Nat}{c:Chunk},k≤h.length→∀k',aG (bw h k c) k'=if k'=k then c else aG h k'
 |[],0,c,_,k'=>by cases k'<;>simp[bw,aG]
 |[],k+1,c,h,k'=>by simp at h
 |a::l,0,c,_,k'=>by cases k'<;>simp[bw,aG]
 |a::l,k+1,c,h,k'=>by
  cases k' with
  |zero=>simp[bw,aG]
  |succ k'=>
   simp only[bw,aG];rw[gF (by simpa using h)];simp
theorem Br:∀{h:List Chunk}{k:Nat}{c:Chunk},h.length≤(bw h k c).length
 |[],0,c=>by simp[bw]
 |[],k+1,c=>by simp[bw]
 |a::l,0,c=>by simp[bw]
 |a::l,k+1,c=>by
  have:=Br (h:=l) (k:=k) (c:=c);simpa[bw]using this
theorem qF:∀{eff:List (Nat × Chunk)}{h:List Chunk},h.length≤(pL eff h).length
 |[],_=>XB _
 |(_,_)::_,_=>Yy qF Br
theorem sa:∀{eff:List (Nat × Chunk)}{h:List Chunk},(∀kc∈eff,kc.1≤h.length)→∀k',aG (pL eff h) k'=cE eff (aG h) k'
 |[],_,_,_=>rfl
 |(k,c)::l,h,hk,k'=>by
  simp only[pL,cE];rw[gF (Yy (hk (k,c) (by simp)) qF),sa fun kc MK=>hk kc (by simp[MK])]
theorem oP {e:cu}{h:List Chunk}{dst:Option Nat}{p:PV}{eff:List (Nat × Chunk)}{touch:List Nat}(hk:∀kc∈eff,kc.1≤h.length):(bQ e h).app dst {pv:=p,eff:=eff,touch:=touch}=bQ (gp e dst p) (pL eff h):=by
 have h1:aG (pL eff h)=cE eff (aG h):=funext (sa hk);cases dst with
 |none=>simp only[FS.app,FS.put,bQ,gp,h1]
 |some d=>
  simp only[FS.app,FS.put,bQ,gp,h1];congr 1
theorem qG:∀{h:List Chunk}{k:Nat}{c:Chunk},k < h.length→(bw h k c).length=h.length
 |a::l,0,c,_=>rfl
 |a::l,k+1,c,hk=>by simp only[bw,XA];rw[qG (by simpa using hk)]
theorem Bs:∀{h:List Chunk}{c:Chunk},(bw h h.length c).length=h.length+1
 |[],c=>rfl
 |a::l,c=>by simp only[bw,XA];rw[Bs]
def ir (ρ:Nat→Nat):Nat→List Chunk→List Chunk→List Chunk
 |_,[],h=>h
 |j,c::l,h=>ir ρ (j+1) l (bw h (ρ j) (lj ρ c))
theorem uY {ρ:Nat→Nat}(inj:∀i j,ρ i=ρ j→i=j){c:Chunk}:∀(l:List Chunk) (i j:Nat) (h:Nat→Chunk),j < i→∀k,cE (kf ρ i l) (fun k'=>if k'=ρ j then c else h k') k=if k=ρ j then c else cE (kf ρ i l) h k
 |[],i,j,h,hj,k=>rfl
 |d::l,i,j,h,hj,k=>by
  simp only[kf,cE];by_cases e:k=ρ i
  ·rw[if_pos e,if_pos e,if_neg (fun e2=>by have:=inj _ _ (e.symm.trans e2);omega)]
  ·rw[if_neg e,if_neg e];exact uY inj l (i+1) j h (by omega) k
theorem uZ {ls:List Nat}{nk:Nat}(lf:ls.Nodup)(hlt:∀k∈ls,k < nk):∀(l:List Chunk) (i:Nat) (h:List Chunk),(i≤ls.length→h.length=nk)→(ls.length≤i→h.length=nk+(i - ls.length))→
 (∀k,aG (ir (eC ls nk) i l h) k=cE (kf (eC ls nk) i l) (aG h) k)∧h.length≤(ir (eC ls nk) i l h).length
 |[],i,h,_,_=>⟨fun _=>rfl,XB _⟩
 |c::l,i,h,h1,h2=>by
  have inj:∀i j,eC ls nk i=eC ls nk j→i=j:=fun i j e=>zC lf hlt e;rcases XP i ls.length with hi|hi
  ·have bT:=h1 (by omega);have hk:eC ls nk i < h.length:=by rw[bT];exact hlt _ (Xl (mN hi))
   have gM:=qG (c:=lj (eC ls nk) c) hk;obtain⟨q1,q2⟩:=uZ lf hlt l (i+1) (bw h (eC ls nk i) (lj (eC ls nk) c)) (fun _=>gM.trans bT) (fun hge=>by rw[gM,bT];omega);refine⟨fun k=>?_,by rw[gM]at q2;exact q2⟩;simp only[ir,kf,cE];rw[q1 k,show aG (bw h (eC ls nk i) (lj (eC ls nk) c))=fun k'=>if k'=eC ls nk i then lj (eC ls nk) c else aG h k' from funext (gF (p' hk))];exact uY inj l (i+1) i _ (by omega) k
  ·have bT:=h2 hi;have hk:eC ls nk i=h.length:=by
    have:=ke ls nk (i - ls.length);rw[show ls.length+(i - ls.length)=i by omega]at this;omega
   have gM:(bw h (eC ls nk i) (lj (eC ls nk) c)).length=h.length+1:=by rw[hk];exact Bs
   obtain⟨q1,q2⟩:=uZ lf hlt l (i+1) (bw h (eC ls nk i) (lj (eC ls nk) c)) (fun hge=>by omega) (fun _=>by rw[gM,bT];omega);refine⟨fun k=>?_,Yy (by omega) q2⟩;simp only[ir,kf,cE];rw[q1 k,show aG (bw h (eC ls nk i) (lj (eC ls nk) c))=fun k'=>if k'=eC ls nk i then lj (eC ls nk) c else aG h k' from funext (gF (by omega))];exact uY inj l (i+1) i _ (by omega) k
def zH (dj:Option Nat)(e:cu):Option (Option Bool):=
 match dj with
 |none=>some none
 |some t=>match fp e t with
  | .d (.v (.bool b))=>some (some b)
  | .d (.v (.tuple _))=>some none
  |_=>none
def sb (ds:List (Option Nat))(e:cu)(o:Oper):Option Bool:=
 match o.guard with
 |none=>some true
 |some (j,want)=>(zH (ds.getD j none) e).map (·==some want)
theorem G8 {ops:Array Oper}{e:cu}{h:List Chunk}{o:Oper}:nM ops (bQ e h) o=sb (ops.toList.map (·.dst)) e o:=by
 unfold nM sb;cases o.guard with
 |none=>rfl
 |some jw=>
  obtain⟨j,want⟩:=jw;simp only;congr 1;unfold zl zH;have:(ops[j]?).bind (·.dst)=(ops.toList.map (·.dst)).getD j none:=by
   simp only[XJ,Xz,X6];cases ops[j]? <;>rfl
  rw[this];rfl
def JL (n:Nat)(o:Oper):Bool:=match o.dst with|some d=>decide (d < n)|none=>true
def R0 (h:Nat→Chunk)(ps:List PV):Option (List D):=cJ (vw h) ps
def PW (h:Nat→Chunk)(ps:List PV):List Nat:=jh (tc h) ps
def pM (ls:List Nat)(nk n:Nat):List Nat:=(X5 n).map (eC ls nk)
def zI (P:Program)(r:SR)(dst:Option Nat)(e:cu)(h:List Chunk)(sm:List (List Nat × List Nat))(R:cu→List Chunk→List (List Nat × List Nat)→Prop):Prop:=
 match r with
 | .no=>False
 | .res p eff touch side=>side∧(eff.all fun kc=>decide (kc.1≤h.length))=true∧R (gp e dst p) (pL eff h) ((eff.map (·.1),touch)::sm)
 | .call g ps=>(∃ds r,R0 (aG h) ps=some ds∧af P g ds r∧(PW (aG h) ps=[]∨r.flat=true)∧R (gp e dst (.d r)) h (([],PW (aG h) ps)::sm))∨
  (∃ls args h0 r h1,MSpec P g args h0 r h1∧ps=iJ (eC ls h.length) args∧ls.length=h0.length∧ls.Nodup∧(∀k∈ls,k < h.length)∧ax (aG h) (eC ls h.length) 0 h0∧
   R (gp e dst (ren (eC ls h.length) r)) (ir (eC ls h.length) 0 h1 h) ((pM ls h.length h1.length,pM ls h.length h1.length)::sm))∨
  ∃ls args h0 r,MSpec P g args h0 r h0∧ps=iJ (eC ls h.length) args∧ls.length=h0.length∧ls.Nodup∧(∀k∈ls,k < h.length)∧ax (aG h) (eC ls h.length) 0 h0∧
   R (gp e dst (ren (eC ls h.length) r)) h (([],pM ls h.length h0.length)::sm)
def t5 (P:Program)(n:Nat)(T:Nat→Option TI)(Q:Nat→Option Nat)(draw:Bool)(ops:Array Oper)(ds:List (Option Nat)):List Oper→cu→List Chunk→List (List Nat × List Nat)→(cu→List Chunk→Prop)→Prop
 |[],e,h,sm,K=>(draw=true→(nO ops sm.reverse&&nQ ops)=true)∧K e h
 |o::l,e,h,sm,K=>
  match sb ds e o with
  |some g=>
   JL n o=true∧
   (g=true→zI P (MG T Q e h o) o.dst e h sm (fun e' h' sm'=>t5 P n T Q draw ops ds l e' h' sm' K))∧
   (g=false→t5 P n T Q draw ops ds l (gp e o.dst (.d (.v undef))) h (([],[])::sm) K)
  |none=>False
theorem u4 {X:Cfg}{T:Nat→Option TI}{Q:Nat→Option Nat}(cp:TabOK X.P T Q){draw:Bool}{ops:Array Oper}{K:cu→List Chunk→Prop}:∀(l:List Oper) (i:Nat) (e:cu) (h:List Chunk) (sm:List (List Nat × List Nat)),X.m≤h.length→ops.toList.drop i=l→i≤ops.size→
 t5 X.P X.n T Q draw ops (ops.toList.map (·.dst)) l e h sm K→∃its e' h',j8 X ops (bQ e h) i its∧rT (bQ e h) its=bQ e' h'∧(draw=true→(nO ops (sm.reverse++DR its)&&nQ ops)=true)∧K e' h'
 |[],i,e,h,sm,li,hl,hi,hs=>by
  refine⟨[],e,h,?_,rfl,by simpa[DR]using hs.1,hs.2⟩;have:=congrArg I' hl;simp at this;simp only[j8];omega
 |o::l,i,e,h,sm,li,hl,hi,hs=>by
  have hlt:i < ops.size:=by
   have:=congrArg I' hl;simp at this;omega
  have Pt:ops[i]? =some o:=by
   have:=Yk (xs:=ops.toList) (i:=i) (j:=0);rw[hl]at this;simpa using this.symm
  have hl':ops.toList.drop (i+1)=l:=by
   rw[←List.drop_drop,hl];rfl
  unfold t5 at hs;split at hs
  ·rename_i g hg;obtain⟨sP,h1,h2⟩:=hs;have hd:∀d,o.dst=some d→d < X.n:=by
    intro d hd;unfold JL at sP;rw[hd]at sP;simpa using sP
   have SL:nM ops (bQ e h) o=some g:=G8.trans hg;have step:∀(res:Res) (e2:cu) (h2:List Chunk),Ja X ops (bQ e h) ⟨o,g,res⟩→(bQ e h).app o.dst res=bQ e2 h2→h.length≤h2.length→t5 X.P X.n T Q draw ops (ops.toList.map (·.dst)) l e2 h2 ((res.eff.map (·.1),res.touch)::sm) K→
    ∃its e' h',j8 X ops (bQ e h) i its∧rT (bQ e h) its=bQ e' h'∧(draw=true→(nO ops (sm.reverse++DR its)&&nQ ops)=true)∧K e' h':=by
    intro res e2 h2 I0 SM bT hs;obtain⟨its,e',h',t1,t2,t3,t4⟩:=u4 cp l (i+1) e2 h2 _ (by omega) hl' (by omega) hs;refine⟨⟨o,g,res⟩::its,e',h',⟨Pt,I0,by rw[SM];exact t1⟩,?_,fun DJ=>?_,t4⟩
    ·show rT ((bQ e h).app o.dst res) its=_;rw[SM];exact t2
    ·have:=t3 DJ;simpa[DR]using this
   cases g with
   |true=>
    have h1:=h1 rfl;unfold zI at h1;split at h1
    ·exact h1.elim
    ·rename_i p eff touch side lQ;obtain⟨SN,Ut,wL⟩:=h1;have hk:∀kc∈eff,kc.1≤h.length:=fun kc MK=>by
      have:=XE.1 Ut kc MK;simpa using this
     exact step ⟨p,eff,touch⟩ _ _ ⟨SL,fun _=>JJ cp hd li lQ SN,fun hf=>by cases hf⟩ (oP hk) qF wL
    ·rename_i g ps lQ;obtain⟨fo,args,tys,caps,ho,hf,rfl⟩:=JK lQ;have e1:(List.map (ev (bQ e h)) args)=args.map (dI e):=Zr fun x _=>aD e h x;have hf':ev (bQ e h) fo= .clo g caps∨∃cd:List D,ev (bQ e h) fo= .d (.clo g cd)∧caps=cd.map .d:=by rw[aD];exact hf
     rcases h1 with⟨ds,r,hv,hp,gS,wL⟩|⟨ls,margs,h0,r,wM,hM,lq,g1,g2,g3,g4,wL⟩|⟨ls,margs,h0,r,hM,lq,g1,g2,g3,g4,wL⟩
     ·have:=M7 (X:=X) (ops:=ops) (s:=bQ e h) hd ho hf' (by simp only;rw[e1];exact hv) hp (by simp only;rw[e1];exact gS);simp only at this;rw[e1]at this;exact step ⟨.d r,[],_⟩ _ h ⟨SL,fun _=>this,fun hf=>by cases hf⟩ (oP (fun kc h=>by simp at h)) (XB _) wL
     ·have:=Bc (X:=X) (ops:=ops) (s:=bQ e h) (ls:=ls) (nk:=h.length) hd ho hf' hM (by simp only;rw[e1];exact lq) g1 g2 g3 g4 (fun i _=>mb h (h.length+i) (by omega)) li;obtain⟨q1,q2⟩:=uZ g2 g3 wM 0 h (fun _=>rfl) (fun h0=>by omega);refine step ⟨_,_,_⟩ (gp e o.dst (ren (eC ls h.length) r)) (ir (eC ls h.length) 0 wM h) ⟨SL,fun _=>this,fun hf=>by cases hf⟩ ?_ q2 ?_
      ·have h3:aG (ir (eC ls h.length) 0 wM h)=cE (kf (eC ls h.length) 0 wM) (aG h):=funext q1;cases hdd:o.dst with
       |none=>simp only[FS.app,FS.put,bQ,gp,h3]
       |some d=>
        simp only[FS.app,FS.put,bQ,gp,h3];congr 1
      ·have h4:(kf (eC ls h.length) 0 wM).map (·.1)=pM ls h.length wM.length:=by
        rw[r5];exact Zr fun j _=>by rw[XG]
       simp only;rw[h4];exact wL
     ·have:=Jt (X:=X) (ops:=ops) (s:=bQ e h) (ls:=ls) (nk:=h.length) hd ho hf' hM (by simp only;rw[e1];exact lq) g1 g2 g3 g4 li;exact step ⟨ren (eC ls h.length) r,[],_⟩ _ h ⟨SL,fun _=>this,fun hf=>by cases hf⟩ (oP (fun kc h=>by simp at h)) (XB _) wL
   |false=>
    exact step DP _ h ⟨SL,(fun hf=>(by cases hf)),fun _=>⟨rfl,hd⟩⟩ (oP (fun kc h=>by simp at h)) (XB _) (h2 rfl)
  ·exact hs.elim
theorem zJ {X:Cfg}{T:Nat→Option TI}{Q:Nat→Option Nat}(cp:TabOK X.P T Q)(hm:X.P.follows .mixedOrders=true){id:Nat}{draw:Bool}{ops:Array Oper}{K:cu→List Chunk→Prop}{e:cu}{h:List Chunk}{a:Act}{w:World}{R:Exit→Act→World→Prop}(li:X.m≤h.length)
 (hs:t5 X.P X.n T Q draw ops (ops.toList.map (·.dst)) ops.toList e h [] K) (hr:j7 X (bQ e h) a w) (hR:∀e' h' a' w',K e' h'→j7 X (bQ e' h') a' w'→R .normal a' w'):(Code.region id ops draw).wp X.P R a w:=by
 obtain⟨its,e',h',t1,t2,t3,t4⟩:=u4 cp ops.toList 0 e h [] li rfl (XD _) hs;refine AQ hm id draw t1 (fun hd=>?_) hr (fun a' w' hr'=>hR e' h' a' w' t4 (by rw[←t2];exact hr'));have:=t3 hd;simpa using this
def ew (P:Program)(n m:Nat)(e:cu)(h:List Chunk)(e':cu)(h':List Chunk):Prop:=∀X:Cfg,X.P=P→X.n=n→X.m=m→∀a w,j7 X (bQ e h) a w→j7 X (bQ e' h') a w
def RK (X:Cfg)(K:Exit→cu→List Chunk→Prop)(x:Exit)(a:Act)(w:World):Prop:=∃e h,K x e h∧j7 X (bQ e h) a w
def tn (P:Program)(n m:Nat)(c:Code)(K:Exit→cu→List Chunk→Prop)(e:cu)(h:List Chunk):Prop:=∀X:Cfg,X.P=P→X.n=n→X.m=m→∀a w,j7 X (bQ e h) a w→c.wp P (RK X K) a w
def pN:List PV→Nat→cu
 |[],_=>[]
 |p::l,i=>(i,p)::pN l (i+1)
theorem yj:∀(ps:List PV) (i t:Nat),fp (pN ps i) t=if i≤t then (match ps[t - i]? with|some p=>p|none=> .any)else .any
 |[],i,t=>by simp[pN,fp]
 |d::l,i,t=>by
  simp only[pN,fp];by_cases h:t=i
  ·subst h;simp
  ·rw[if_neg h,yj l (i+1) t];by_cases h2:i≤t
   ·rw[if_pos h2,if_pos (by omega),show t - i=(t - (i+1))+1 by omega,Yw]
   ·rw[if_neg h2,if_neg (by omega)]
def Fx (T:Nat→Option TI)(e:cu)(h:List Chunk):ResultVar→Option PV
 | .tmp t=>some (fp e t)
 | .cell a t=>
  match fp e a,T t with
  | .ptr k off,some ti=>
   match aG h k with
   | .box _ cells=>
    if off+ti.size≤cells.length then
     if ti.agg then some (rU ((cells.drop off).take ti.size))
     else match cells.drop off with
      |p::_=>if ti.size=1 then some p else none
      |[]=>none
    else none
   |_=>none
  |_,_=>none
def py (T:Nat→Option TI)(e:cu)(h:List Chunk):List ResultVar→Option (List PV)
 |[]=>some []
 |r::l=>match Fx T e h r,py T e h l with|some d,some ds=>some (d::ds)|_,_=>none
def xp:List PV→PV
 |[p]=>p
 |ps=>Jh ps
def ai (d d':D):Prop:=∀(M:Nat→Prop) (w:World) (v:Value),RepD M w d v→RepD M w d' v
theorem ai.refl (d:D):ai d d:=fun _ _ _ h=>h
theorem ai.nil (sz:Nat):ai (.v (.slice none 0 0)) (.sl sz []):=fun _ _ _ h=>by cases h;exact .nil _ _ _ (by omega)
def pO:List D→List D→Prop
 |[],[]=>True
 |a::l,b::m=>ai a b∧pO l m
 |_,_=>False
theorem uj:∀{l m:List D},pO l m→l.length=m.length∧∀(j:Nat) (a b:D),l[j]? =some a→m[j]? =some b→ai a b
 |[],[],_=>⟨rfl,fun j a b h=>by simp at h⟩
 |[],_::_,h=>h.elim
 |_::_,[],h=>h.elim
 |a::l,b::m,⟨h1,h2⟩=>by
  obtain⟨q1,q2⟩:=uj h2;refine⟨by simp[q1],fun j x y hx hy=>?_⟩;cases j with
  |zero=>simp at hx hy;subst hx;subst hy;exact h1
  |succ j=>exact q2 j x y (by simpa using hx) (by simpa using hy)
theorem u5 {M:Nat→Prop}{w:World}{l m:List D}{vs:List Value}(h:pO l m)(hr:dZ M w l vs):dZ M w m vs:=by
 obtain⟨q1,q2⟩:=uj h;refine⟨q1 ▸ hr.1,fun j d x hj hx=>?_⟩;have hlt:j < l.length:=by rw[q1];exact(Xn.1 hj).1
 have hl:l[j]? =some l[j]:=Xk hlt;exact q2 j _ d hl hj M w x (hr.2 j _ x hl hx)
theorem ai.agg {l m:List D}(h:pO l m)(h1:m.all D.one=true):ai (.agg l) (.agg m):=fun M w v hr=>by
 cases hr with
 |agg _ vs hl _ bA=>
  have:=u5 h ⟨hl,bA⟩;exact .agg m vs this.1 (by simpa using h1) this.2
theorem ai.tup {l m:List D}(h:pO l m):ai (.tup l) (.tup m):=fun M w v hr=>by
 cases hr with
 |tup _ vs hl bA=>
  have:=u5 h ⟨hl,bA⟩;exact .tup m vs this.1 this.2
theorem af.args {P:Program}{f:Nat}{ds ds':List D}{r:D}(h:af P f ds' r)(hd:pO ds ds'):af P f ds r:=⟨h.1,fun M w vs hM hG ft=>h.2 M w vs hM hG (u5 hd ft)⟩
theorem af.res {P:Program}{f:Nat}{ds:List D}{r r':D}(h:af P f ds r)(hr:ai r r'):af P f ds r':=⟨h.1,fun M w vs hM hG ft=>(h.2 M w vs hM hG ft).mono fun e w' ⟨v,he,hv,hx⟩=>⟨v,he,hr M w' v hv,hx⟩⟩
def qH (T:Nat→Option TI)(rs:List ResultVar)(r:D)(x:Exit)(e:cu)(h:List Chunk):Prop:=(x= .normal∨x= .ret)∧∃ps d,py T e h rs=some ps∧vw (aG h) (xp ps)=some d∧ai d r
def xq (P:Program)(m:Nat)(T:Nat→Option TI)(rs:List ResultVar)(r:PV)(h1:List Chunk)(x:Exit)(e:cu)(h:List Chunk):Prop:=(x= .normal∨x= .ret)∧∃ps,py T e h rs=some ps∧ew P 1 m [(0,xp ps)] h [(0,r)] h1
def pP (tmps:Array Value):ResultVar→Sem Value
 | .tmp t=>pure (tmps.getD t undef)
 | .cell a t=>do loadVar t (←asAddr (tmps.getD a undef))
theorem tq {P:Program}{tmps:Array Value}{w:World}:∀(rs:List ResultVar) (vs:List Value),rs.length=vs.length→
 (∀(j:Nat) (r:ResultVar) (v:Value),rs[j]? =some r→vs[j]? =some v→(pP tmps r).run P w= .ok v w)→(rs.mapM (pP tmps)).run P w= .ok vs w
 |[],[],_,_=>by simp
 |[],_::_,h,_=>by simp at h
 |_::_,[],h,_=>by simp at h
 |r::rs,v::vs,h,hr=>by
  have h0:=hr 0 r v rfl rfl;have ih:=tq (P:=P) (tmps:=tmps) (w:=w) rs vs (by simpa using h) fun j r v h1 h2=>hr (j+1) r v (by simpa using h1) (by simpa using h2);rw[List.mapM_cons,Sem.run_bind,h0];simp only[Result.andThen_ok,Sem.run_bind,ih];rfl
theorem Nl {X:Cfg}{T:Nat→Option TI}{Q:Nat→Option Nat}(cp:TabOK X.P T Q){e:cu}{h:List Chunk}{a:Act}{w:World}{c:Cx}(hc:RealC X (bQ e h) a w c)(rv:ResultVar)(p:PV)(zg:Fx T e h rv=some p):
 ∃v,(pP a.tmps rv).run X.P w= .ok v w∧RepP c w p v:=by
 cases rv with
 |tmp t=>cases zg;exact⟨_,rfl,hc.env t⟩
 |cell b t=>
  simp only[Fx]at zg;split at zg
  ·rename_i k off ti hb' ht;split at zg
   ·rename_i TT cells hk;split at zg
    ·rename_i cP;have bc:=hc.chunk k;have hk':(bQ e h).heap k= .box TT cells:=hk;rw[hk']at bc;have LZ:=hc.env b;have jd:(bQ e h).env b= .ptr k off:=hb';rw[jd]at LZ;generalize hu:a.tmps.getD b undef=u at LZ;cases LZ with
     |ptr _ _ bb WR=>
      cases bc with
      |box _ _ b'' us hb'' hh ny h1=>
       rw[WR]at hb'';cases hb'';have hul:us.length=cells.length:=ny.1.symm;have bT:((us.drop off).take ti.size).length=ti.size:=by rw[Xp,XI];omega
       have dy:∀(j:Nat) (v:Value),((us.drop off).take ti.size)[j]? =some v→w.cell? ⟨bb,off+j,none⟩=some v:=fun j v hj=>by
        simp[YS,hh,(eF hj).2]
       have Py:∀(h0:ti.agg=false→∃v,(us.drop off).take ti.size=[v]),(loadVar t ⟨bb,off,none⟩).run X.P w= .ok (if ti.agg then .agg ((us.drop off).take ti.size).toArray else ((us.drop off).take ti.size).headD undef) w:=by
        intro h0;have:=mL (cp.t t ti ht) w bb off ((us.drop off).take ti.size) bT dy h0;simpa[Instr.loadAt,Instr.sureAddr]using this
       cases o8:ti.agg with
       |true=>
        rw[o8,if_pos rfl]at zg;cases zg;have hl:=Py (fun h=>by rw[o8]at h;cases h);rw[o8,if_pos rfl]at hl;exact⟨_,by simp[pP,hu,asAddr,hl],qy (ny.part off ti.size) (fun d hd=>h1 d (Yd (Yg hd)))⟩
       |false=>
        rw[o8,if_neg (by simp)]at zg;split at zg
        ·rename_i q l DJ;split at zg
         ·rename_i h1';cases zg;have hp:=r8 DJ;obtain⟨v,hv⟩:∃v,us[off]? =some v:=⟨us[off]'(by omega),Xk _⟩;have eP:(us.drop off).take ti.size=[v]:=by
           rw[h1',YQ (by omega)];simp only[ZC,Z4];rw[Xk (by omega)]at hv;simpa using hv
          have hl:=Py (fun _=>⟨v,eP⟩);rw[o8,if_neg (by simp),eP]at hl;exact⟨v,by simp[pP,hu,asAddr,hl],ny.2 off p v hp hv⟩
         ·cases zg
        ·cases zg
    ·cases zg
   ·cases zg
  ·cases zg
theorem Fy {X:Cfg}{T:Nat→Option TI}{Q:Nat→Option Nat}(cp:TabOK X.P T Q){e:cu}{h:List Chunk}{a:Act}{w:World}{c:Cx}(hc:RealC X (bQ e h) a w c){fn:Func}{ps:List PV}(f6:py T e h fn.results.toList=some ps):
 ∃v,(results fn a.tmps).run X.P w= .ok v w∧RepP c w (xp ps) v:=by
 have SO:∀(rs:List ResultVar) (ps:List PV),py T e h rs=some ps→∃vs:List Value,rs.length=vs.length∧bG c w ps vs∧
  (∀(j:Nat) (r:ResultVar) (v:Value),rs[j]? =some r→vs[j]? =some v→(pP a.tmps r).run X.P w= .ok v w):=by
  intro rs;induction rs with
  |nil=>
   intro ds ft;simp[py]at ft;subst ft;exact⟨[],rfl,⟨rfl,fun j d x h=>by simp at h⟩,fun j r v h=>by simp at h⟩
  |cons rv rs ih=>
   intro ds ft;simp only[py]at ft;split at ft
   ·rename_i d ds' h1 h2;cases ft;obtain⟨v,AN,SP⟩:=Nl cp hc rv d h1;obtain⟨vs,g1,g2,g3⟩:=ih ds' h2;refine⟨v::vs,by simp[g1],⟨by simp[g2.1],fun j d x hj hx=>?_⟩,fun j r x hj hx=>?_⟩
    ·cases j with
     |zero=>simp at hj hx;subst hj;subst hx;exact SP
     |succ j=>exact g2.2 j d x (by simpa using hj) (by simpa using hx)
    ·cases j with
     |zero=>simp at hj hx;subst hj;subst hx;exact AN
     |succ j=>exact g3 j r x (by simpa using hj) (by simpa using hx)
   ·cases ft
 obtain⟨vs,g1,g2,g3⟩:=SO _ _ f6;have cr:=tq (P:=X.P) (tmps:=a.tmps) (w:=w) fn.results.toList vs g1 g3;have qh:(results fn a.tmps).run X.P w= .ok (if h:vs.length=1 then vs[0]else .tuple vs.toArray) w:=by
  have e1:results fn a.tmps=(do let vs ←fn.results.mapM (pP a.tmps);pure (if h:vs.size=1 then vs[0]else .tuple vs)):=by
   unfold results;congr 1
  rw[e1,Sem.run_bind,Array.mapM_eq_mapM_toList];simp[cr]
 refine⟨_,qh,?_⟩;by_cases h1:vs.length=1
 ·rw[dif_pos h1];obtain⟨d,rfl⟩:=List.length_eq_one_iff.1 (g2.1.trans h1);exact g2.2 0 d _ rfl (Xk (by omega))
 ·rw[dif_neg h1];have:xp ps=Jh ps:=by
   unfold xp;split
   ·exact absurd g2.1.symm h1
   ·rfl
  rw[this];exact Ji g2
theorem Bt {c:Cx}{w:World}{ps:List PV}{vs:List Value}{n:Nat}(ft:bG c w ps vs)(t:Nat):RepP c w (fp (pN ps 0) t) ((vs.toArray++Y5 (n - vs.toArray.size) undef).getD t undef):=by
 rw[yj];rw[if_pos (XD _),Yo];cases hd:ps[t]? with
 |none=>exact .any _
 |some d=>
  have hlt:t < vs.length:=by rw[←ft.1];exact(Xn.1 hd).1
  have hv:vs[t]? =some vs[t]:=Xk hlt;have:=ft.2 t d _ hd hv;simp only[Yu,Array.getElem?_append,YH,hlt,if_true,List.getElem?_toArray,hv,YI];exact this
theorem Bu {P:Program}{f:Nat}{fn:Func}{c:Code}{T:Nat→Option TI}{Q:Nat→Option Nat}(cp:TabOK P T Q)(hf:P.funcs[f]? =some fn)(hb:fn.body=some c)(hn:xg P f){ds:List D}{r:D}(hl:ds.length≤fn.ntmps)
 (hp:tn P fn.ntmps 0 c (qH T fn.results.toList r) (pN (ds.map .d) 0) []):af P f ds r:=by
 refine⟨hn,fun M w vs hM hG ft=>?_⟩;have Pu:vs.length=ds.length:=ft.1.symm;let c0:Cx:={M:=M,bl:=fun _=>none,ov:=fun _ _=>none}
 let X:Cfg:={P:=P,n:=fn.ntmps,m:=0,w0:=w,M0:=M,L:=fun _=>False,c0:=c0}
 have mG:j7 X (bQ (pN (ds.map .d) 0) []) {tmps:=vs.toArray++Y5 (fn.ntmps - vs.toArray.size) undef,defers:=[]} w:=by
  refine⟨c0,by simp[X];omega,rfl,ExtL.refl _ _,hG.keep ⟨XB _,fun _ _ _=>rfl,fun b _ h=>h.elim id False.elim⟩,fun b hb=>⟨hM b hb,id⟩,fun b=>⟨.inl,fun h=>?_⟩,fun k b h=>?_,fun k k' b h _=>?_,fun t=>Bt (qw (c:=c0) ft) t,fun k=>?_,fun k hk=>absurd hk (YJ _)⟩
  ·rcases h with h|⟨k,h⟩
   ·exact h
   ·simp[bQ,aG,Cx.block]at h
  ·simp[bQ,aG,Cx.block]at h
  ·simp[bQ,aG,Cx.block]at h
  ·simp only[bQ,aG];exact .none rfl fun _=>rfl
 refine calls_of_wp hf hb (wp_mono (hp X rfl rfl rfl _ _ mG) fun ex a w' hq=>?_);obtain⟨e,h,⟨hx,ps,d,f6,hv,hle⟩,hr⟩:=hq;obtain⟨cx,hc⟩:=hr;obtain⟨v,cr,bA⟩:=Fy cp hc f6;have hd:=kG hc (T:=tc (aG h) (xp ps)) 6 hv (fun _ h=>h) bA;have zf:RepD M w' d v:=by
  refine hd.keep ⟨XB _,fun _ _ _=>rfl,fun b _ hb=>⟨(hc.mu b).2 (.inl hb),fun k _ e=>?_⟩⟩;rcases(hc.new k b e).1 with h1|h1
  ·exact h1
  ·have:=(hc.fresh b hb).1;omega
 rcases hx with rfl|rfl
 ·exact⟨hc.defers,v,cr,v,rfl,hle _ _ _ zf,hc.ext.ext⟩
 ·exact⟨hc.defers,v,cr,v,rfl,hle _ _ _ zf,hc.ext.ext⟩
theorem Bv {P:Program}{f:Nat}{fn:Func}{c:Code}{T:Nat→Option TI}{Q:Nat→Option Nat}(cp:TabOK P T Q)(hf:P.funcs[f]? =some fn)(hb:fn.body=some c)(hn:xg P f){args:List PV}{h0 h1:List Chunk}{r:PV}(hl:args.length≤fn.ntmps)
 (hle:h0.length≤h1.length) (Ax:an h0.length args=true) (hbh:aH h0.length h0=true) (hp:tn P fn.ntmps h0.length c (xq P h0.length T fn.results.toList r h1) (pN args 0) h0):MSpec P f args h0 r h1:=by
 refine⟨hn,hle,Ax,hbh,fun X WS WT qj w cx vs hc zd=>?_⟩;subst WS;have Pu:vs.length=args.length:=zd.1.symm;have mG:j7 {X with n:=fn.ntmps} (bQ (pN args 0) h0) {tmps:=vs.toArray++Y5 (fn.ntmps - vs.toArray.size) undef,defers:=[]} w:=
  ⟨cx,by simp;omega,rfl,hc.ext,hc.inv,hc.fresh,hc.mu,hc.new,hc.apart,fun t=>Bt zd t,hc.chunk,hc.lent⟩
 refine calls_of_wp hf hb (wp_mono (hp {X with n:=fn.ntmps} rfl rfl qj _ _ mG) fun ex a w' hq=>?_);obtain⟨e,h,⟨hx,ps,f6,SQ⟩,hr⟩:=hq;obtain⟨c2,wH⟩:=hr;obtain⟨v,cr,bA⟩:=Fy (X:={X with n:=fn.ntmps}) cp wH f6;have WU:j7 {X with n:=1} (bQ [(0,xp ps)] h) {tmps:=#[v],defers:=[]} w':=by
  refine⟨c2,rfl,rfl,wH.ext,wH.inv,wH.fresh,wH.mu,wH.new,wH.apart,fun t=>?_,wH.chunk,wH.lent⟩;simp only[bQ,fp];by_cases ht:t=0
  ·subst ht;rw[if_pos rfl];exact bA
  ·rw[if_neg ht];exact .any _
 obtain⟨c3,OR⟩:=SQ {X with n:=1} rfl rfl qj _ _ WU;have RM:RepP c3 w' r v:=OR.env 0;have rJ:RealC X (bQ [] h1) Js w' c3:=⟨WT.symm,rfl,OR.ext,OR.inv,OR.fresh,OR.mu,OR.new,OR.apart,fun t=> .any _,OR.chunk,OR.lent⟩;rcases hx with rfl|rfl
 ·exact⟨wH.defers,v,cr,v,c3,rfl,RM,rJ⟩
 ·exact⟨wH.defers,v,cr,v,c3,rfl,RM,rJ⟩
def Bw (W:World)(R:Value→Prop)(e:Ending)(w':World):Prop:=(∃u,e= .returned u∧R u)∧dw W w'
def RD (P:Program)(W w:World)(R:Value→Prop):Result Next→Prop
 | .ok (.value u) w'=>w'=w∧R u
 | .ok .skip w'=>w'=w∧R undef
 | .ok (.enter f args) w'=>w'=w∧Calls P f args w (Bw W R)
 |_=>False
attribute [go_sem] RD
section
variable {P:Program}{ops:Array Oper}{W:World}{Q:Act→Prop}{o:Oper}{rest:List Oper}{a:Act}
theorem sd {w:World}{v:Value}{r:Result Next}(h:∀R:Value→Prop,R v→RD P W w R r):Oper.quietUpon P (dw W) w v r:=by
 have h1:=h (·=v) rfl;unfold RD at h1;unfold Oper.quietUpon;split at h1
 ·exact h1
 ·exact⟨h1.1,h1.2.symm⟩
 ·refine⟨h1.1,h1.2.mono ?_⟩;rintro e w' ⟨⟨u,rfl,rfl⟩,hw⟩;exact⟨rfl,hw⟩
 ·exact h1.elim
theorem dV {v:Value}(hw:Region.wanted o (yielded ops a.tmps)=true)(h:∀w,dw W w→∀R:Value→Prop,R v→RD P W w R ((execOp a.eval o).run P w))
 (hn:wpQuiet P ops (dw W) Q rest (a.put o.dst v)):wpQuiet P ops (dw W) Q (o::rest) a:=by
 unfold wpQuiet;rw[if_pos hw];exact⟨v,fun w hC=>sd (h w hC),hn⟩
theorem pQ (hw:Region.wanted o (yielded ops a.tmps)=false)(hn:wpQuiet P ops (dw W) Q rest (a.put o.dst undef)):wpQuiet P ops (dw W) Q (o::rest) a:=by
 unfold wpQuiet;rw[if_neg (by rw[hw];simp)];exact hn
section
variable {j d:Nat}{v:Value}{W:World}{Q:Act→Prop}
theorem gq {b:Bool}(hd:(ops[j]?).bind (·.dst)=some d)(hv:a.tmps.toList[d]? =some v)(hb:v= .bool b):yielded ops a.tmps j=some b:=by
 subst hb;rw[X6]at hv;simp[yielded,hd,hv]
theorem mO (hd:(ops[j]?).bind (·.dst)=some d)(hv:a.tmps.toList[d]? =some v)(hb:v=undef):yielded ops a.tmps j=none:=by
 subst hb;rw[X6]at hv;simp[yielded,hd,hv,undef]
theorem jZ (hg:o.guard=some (j,true))(hd:(ops[j]?).bind (·.dst)=some d)(hv:a.tmps.toList[d]? =some v)(hb:v= .bool false)(hn:wpQuiet P ops (dw W) Q rest (a.put o.dst undef)):wpQuiet P ops (dw W) Q (o::rest) a:=
 pQ (by simp[Region.wanted,hg,gq hd hv hb]) hn
theorem j0 (hg:o.guard=some (j,false))(hd:(ops[j]?).bind (·.dst)=some d)(hv:a.tmps.toList[d]? =some v)(hb:v= .bool true)(hn:wpQuiet P ops (dw W) Q rest (a.put o.dst undef)):wpQuiet P ops (dw W) Q (o::rest) a:=
 pQ (by simp[Region.wanted,hg,gq hd hv hb]) hn
theorem j1 {b:Bool}(hg:o.guard=some (j,b))(hd:(ops[j]?).bind (·.dst)=some d)(hv:a.tmps.toList[d]? =some v)(hb:v=undef)(hn:wpQuiet P ops (dw W) Q rest (a.put o.dst undef)):wpQuiet P ops (dw W) Q (o::rest) a:=
 pQ (by simp[Region.wanted,hg,mO hd hv hb]) hn
theorem bx (hg:o.guard=none):Region.wanted o (yielded ops a.tmps)=true:=by simp[Region.wanted,hg]
theorem bD {b:Bool}(hg:o.guard=some (j,b))(hd:(ops[j]?).bind (·.dst)=some d)(hv:a.tmps.toList[d]? =some v)(hb:v= .bool b):Region.wanted o (yielded ops a.tmps)=true:=by
 simp[Region.wanted,hg,gq hd hv hb]
end
theorem jF {f:FuncId}{args:Array Value}{w:World}{R:Value→Prop}{v:Value}(hw:dw W w)(h:Calls P f args w fun e w'=>e= .returned v∧dw w w')(hR:R v):Calls P f args w (Bw W R):=
 h.mono fun _ _ ⟨he,hx⟩=>⟨⟨v,he,hR⟩,hw.trans (hx.mono hw.size)⟩
theorem pR {f:FuncId}{args:Array Value}{w:World}{R:Value→Prop}{v:Value}(hw:dw W w)(h:Calls P f args w fun e w'=>e= .returned v∧w=w')(hR:R v):Calls P f args w (Bw W R):=
 h.mono fun _ _ ⟨he,hx⟩=>⟨⟨v,he,hR⟩,hx ▸ hw⟩
theorem dW {id:Nat}{Q:Exit→Act→World→Prop}{w:World}{l:List Oper}(hm:P.follows .mixedOrders=true)(hB:Region.lexB .any l.toArray=true)
 (h:wpQuiet P l.toArray (dw w) (fun a'=>∀w',dw w w'→Q .normal a' w') l a):(Code.region id l.toArray true).wp P Q a w:=
 wp_region_quiet (C:=dw w) hm hB (Below.refl _ _).drew (by simpa using h)
end
section
variable {P:Program}{ops:Array Oper}{w:World}{Q:Exit→Act→World→Prop}{a:Act}{n:Nat}{listed:Array Bool}
end
theorem ce {k:IntKind}{a b:Int}(h:a=b):Ending.returned (.int k a)= .returned (.int k b):=by rw[h]
theorem di {a b:Bool}(h:a=b):Ending.returned (.bool a)= .returned (.bool b):=by rw[h]
section
open Go.Proofs
theorem kB (a:Nat)(ha:a < 9223372036854775808):(BitVec.ofInt 64 (a:Int)).toNat=a:=by
 rw[BitVec.ofInt_natCast,BitVec.toNat_ofNat];exact Nat.mod_eq_of_lt (by omega)
theorem By (a b:Nat)(ha:a < 9223372036854775808)(hb:b < 9223372036854775808):bits .and .i64 (a:Int) (b:Int)=((a&&& b:Nat):Int):=by
 have hx:a&&& b < 2 ^ 63:=Nat.and_lt_two_pow _ (by omega);show IntKind.i64.wrap ((BitVec.ofInt 64 (a:Int)&&& BitVec.ofInt 64 (b:Int)).toNat:Int)=_;rw[BitVec.toNat_and,kB a ha,kB b hb,IntKind.wrap_i64];omega
end
def xr:Nat→Option TI
 |3=>some {agg:=false,size:=1,bytes:=8,zero:=[.int .i64 0],fields:=[],elem:=none,int:=some .i64,kind:=0,mp:=none}
 |4=>some {agg:=false,size:=1,bytes:=1,zero:=[.bool false],fields:=[],elem:=none,int:=none,kind:=1,mp:=none}
 |37=>some {agg:=false,size:=1,bytes:=8,zero:=[.int .i64 0],fields:=[],elem:=none,int:=some .i64,kind:=0,mp:=none}
 |32=>some {agg:=true,size:=2,bytes:=16,zero:=[.int .i64 0,.int .i64 0],fields:=[(0,1),(1,1)],elem:=none,int:=none,kind:=0,mp:=none}
 |151=>some {agg:=true,size:=3,bytes:=40,zero:=[.int .i64 0,.int .i64 0,.slice none 0 0],fields:=[(0,2),(2,1)],elem:=none,int:=none,kind:=0,mp:=none}
 |34=>some {agg:=true,size:=4,bytes:=32,zero:=[.int .i64 0,.int .i64 0,.int .i64 0,.int .i64 0],fields:=[(0,1),(1,1),(2,1),(3,1)],elem:=none,int:=none,kind:=0,mp:=none}
 |68=>some {agg:=true,size:=5,bytes:=40,zero:=[.int .i64 0,.int .i64 0,.int .i64 0,.int .i64 0,.int .i64 0],fields:=[(0,2),(2,1),(3,1),(4,1)],elem:=none,int:=none,kind:=0,mp:=none}
 |62=>some {agg:=true,size:=9,bytes:=88,zero:=[.int .i64 0,.int .i64 0,.int .i64 0,.int .i64 0,.int .i64 0,.int .i64 0,.int .i64 0,.int .i64 0,.slice none 0 0],fields:=[(0,1),(1,1),(2,2),(4,4),(8,1)],elem:=none,int:=none,kind:=0,mp:=none}
 |24=>some {agg:=true,size:=2,bytes:=32,zero:=[.int .i64 0,.slice none 0 0],fields:=[(0,1),(1,1)],elem:=none,int:=none,kind:=0,mp:=none}
 |74=>some {agg:=true,size:=2,bytes:=32,zero:=[.int .i64 0,.slice none 0 0],fields:=[(0,1),(1,1)],elem:=none,int:=none,kind:=0,mp:=none}
 |71=>some {agg:=true,size:=4,bytes:=48,zero:=[.int .i64 0,.int .i64 0,.int .i64 0,.slice none 0 0],fields:=[(0,1),(1,2),(3,1)],elem:=none,int:=none,kind:=0,mp:=none}
 |58=>some {agg:=true,size:=3,bytes:=24,zero:=[.int .i64 0,.int .i64 0,.int .i64 0],fields:=[(0,2),(2,1)],elem:=none,int:=none,kind:=0,mp:=none}
 |55=>some {agg:=true,size:=3,bytes:=56,zero:=[.int .i64 0,.slice none 0 0,.slice none 0 0],fields:=[(0,1),(1,1),(2,1)],elem:=none,int:=none,kind:=0,mp:=none}
 |76=>some {agg:=true,size:=2,bytes:=16,zero:=[.int .i64 0,.int .i64 0],fields:=[(0,1),(1,1)],elem:=none,int:=none,kind:=0,mp:=none}
 |28=>some {agg:=true,size:=2,bytes:=48,zero:=[.slice none 0 0,.slice none 0 0],fields:=[(0,1),(1,1)],elem:=none,int:=none,kind:=0,mp:=none}
 |30=>some {agg:=true,size:=4,bytes:=80,zero:=[.int .i64 0,.slice none 0 0,.slice none 0 0,.slice none 0 0],fields:=[(0,2),(2,2)],elem:=none,int:=none,kind:=0,mp:=none}
 |36=>some {agg:=true,size:=10,bytes:=80,zero:=[.int .i64 0,.int .i64 0,.int .i64 0,.int .i64 0,.int .i64 0,.int .i64 0,.int .i64 0,.int .i64 0,.int .i64 0,.int .i64 0],fields:=[(0,1),(1,1),(2,1),(3,1),(4,2),(6,4)],elem:=none,int:=none,kind:=0,mp:=none}
 |39=>some {agg:=true,size:=4,bytes:=32,zero:=[.int .i64 0,.int .i64 0,.int .i64 0,.int .i64 0],fields:=[(0,1),(1,2),(3,1)],elem:=none,int:=none,kind:=0,mp:=none}
 |72=>some {agg:=false,size:=1,bytes:=24,zero:=[.slice none 0 0],fields:=[],elem:=some 3,int:=none,kind:=0,mp:=none}
 |232=>some {agg:=false,size:=1,bytes:=24,zero:=[.slice none 0 0],fields:=[],elem:=some 4,int:=none,kind:=0,mp:=none}
 |149=>some {agg:=false,size:=1,bytes:=24,zero:=[.slice none 0 0],fields:=[],elem:=some 32,int:=none,kind:=0,mp:=none}
 |60=>some {agg:=false,size:=1,bytes:=24,zero:=[.slice none 0 0],fields:=[],elem:=some 68,int:=none,kind:=0,mp:=none}
 |22=>some {agg:=false,size:=1,bytes:=24,zero:=[.slice none 0 0],fields:=[],elem:=some 62,int:=none,kind:=0,mp:=none}
 |69=>some {agg:=false,size:=1,bytes:=24,zero:=[.slice none 0 0],fields:=[],elem:=some 74,int:=none,kind:=0,mp:=none}
 |53=>some {agg:=false,size:=1,bytes:=24,zero:=[.slice none 0 0],fields:=[],elem:=some 71,int:=none,kind:=0,mp:=none}
 |52=>some {agg:=false,size:=1,bytes:=24,zero:=[.slice none 0 0],fields:=[],elem:=some 58,int:=none,kind:=0,mp:=none}
 |25=>some {agg:=false,size:=1,bytes:=24,zero:=[.slice none 0 0],fields:=[],elem:=some 55,int:=none,kind:=0,mp:=none}
 |26=>some {agg:=false,size:=1,bytes:=24,zero:=[.slice none 0 0],fields:=[],elem:=some 76,int:=none,kind:=0,mp:=none}
 |46=>some {agg:=false,size:=1,bytes:=24,zero:=[.slice none 0 0],fields:=[],elem:=some 36,int:=none,kind:=0,mp:=none}
 |47=>some {agg:=false,size:=1,bytes:=24,zero:=[.slice none 0 0],fields:=[],elem:=some 39,int:=none,kind:=0,mp:=none}
 |95=>some {agg:=true,size:=3,bytes:=24,zero:=[.int .i64 0,.int .i64 0,.int .i64 0],fields:=[(0,2),(2,1)],elem:=none,int:=none,kind:=0,mp:=none}
 |86=>some {agg:=true,size:=18,bytes:=192,zero:=[.int .i64 0,.slice none 0 0,.slice none 0 0,.slice none 0 0,.int .i64 0,.int .i64 0,.int .i64 0,.int .i64 0,.int .i64 0,.int .i64 0,.int .i64 0,.int .i64 0,.int .i64 0,.int .i64 0,.int .i64 0,.int .i64 0,.int .i64 0,.int .i64 0],fields:=[(0,4),(4,10),(14,4)],elem:=none,int:=none,kind:=0,mp:=none}
 |5=>some {agg:=false,size:=1,bytes:=1,zero:=[.int .u8 0],fields:=[],elem:=none,int:=some .u8,kind:=0,mp:=none}
 |9=>some {agg:=false,size:=1,bytes:=16,zero:=[.string ByteArray.empty],fields:=[],elem:=none,int:=none,kind:=2,mp:=none}
 |21=>some {agg:=false,size:=1,bytes:=4,zero:=[.int .i32 0],fields:=[],elem:=none,int:=some .i32,kind:=0,mp:=none}
 |83=>some {agg:=false,size:=1,bytes:=8,zero:=[.pointer none],fields:=[],elem:=none,int:=none,kind:=3,mp:=none}
 |104=>some {agg:=false,size:=1,bytes:=8,zero:=[.pointer none],fields:=[],elem:=none,int:=none,kind:=3,mp:=none}
 |107=>some {agg:=false,size:=1,bytes:=8,zero:=[.pointer none],fields:=[],elem:=none,int:=none,kind:=3,mp:=none}
 |117=>some {agg:=false,size:=1,bytes:=8,zero:=[.pointer none],fields:=[],elem:=none,int:=none,kind:=3,mp:=none}
 |147=>some {agg:=false,size:=1,bytes:=8,zero:=[.pointer none],fields:=[],elem:=none,int:=none,kind:=3,mp:=none}
 |210=>some {agg:=false,size:=1,bytes:=8,zero:=[.pointer none],fields:=[],elem:=none,int:=none,kind:=3,mp:=none}
 |214=>some {agg:=false,size:=1,bytes:=8,zero:=[.pointer none],fields:=[],elem:=none,int:=none,kind:=3,mp:=none}
 |234=>some {agg:=false,size:=1,bytes:=8,zero:=[.int .u64 0],fields:=[],elem:=none,int:=some .u64,kind:=0,mp:=none}
 |281=>some {agg:=false,size:=1,bytes:=4,zero:=[.int .u32 0],fields:=[],elem:=none,int:=some .u32,kind:=0,mp:=none}
 |283=>some {agg:=false,size:=1,bytes:=8,zero:=[.int .u64 0],fields:=[],elem:=none,int:=some .u64,kind:=0,mp:=none}
 |108=>some {agg:=false,size:=1,bytes:=8,zero:=[.map none],fields:=[],elem:=none,int:=none,kind:=4,mp:=some (1,false)}
 |109=>some {agg:=false,size:=1,bytes:=8,zero:=[.map none],fields:=[],elem:=none,int:=none,kind:=4,mp:=some (1,false)}
 |92=>some {agg:=false,size:=1,bytes:=8,zero:=[.map none],fields:=[],elem:=none,int:=none,kind:=4,mp:=some (3,true)}
 |_=>none
theorem Nm:∀t ti,xr t=some ti→aT prog t=some ti:=by
 intro t ti h;unfold xr at h;split at h<;>first|(cases h;kernel_rfl)|cases h
theorem G9:AR prog 32 2:=by
 intro w xs ys x y op hx hy lQ;match xs,ys,hx,hy with
 |[a0,a1],[b0,b1],_,_=>
  clear hx hy;rcases lQ with rfl|rfl<;>(simp only[Xm,Xu];go_simp)<;>by_cases h0:a0=b0<;>by_cases h1:a1=b1<;>simp[bne,h0,h1]
theorem No:AR prog 34 4:=by
 intro w xs ys x y op hx hy lQ;match xs,ys,hx,hy with
 |[a0,a1,a2,a3],[b0,b1,b2,b3],_,_=>
  clear hx hy;rcases lQ with rfl|rfl<;>(simp only[Xm,Xu];go_simp)<;>by_cases h0:a0=b0<;>by_cases h1:a1=b1<;>by_cases h2:a2=b2<;>by_cases h3:a3=b3<;>simp[bne,h0,h1,h2,h3]
theorem JM:AR prog 68 5:=by
 intro w xs ys x y op hx hy lQ;match xs,ys,hx,hy with
 |[a0,a1,a2,a3,a4],[b0,b1,b2,b3,b4],_,_=>
  clear hx hy;rcases lQ with rfl|rfl<;>(simp only[Xm,Xu];go_simp)<;>by_cases h0:a0=b0<;>by_cases h1:a1=b1<;>by_cases h2:a2=b2<;>by_cases h3:a3=b3<;>by_cases h4:a4=b4<;>simp[bne,h0,h1,h2,h3,h4]
theorem JN:AR prog 58 3:=by
 intro w xs ys x y op hx hy lQ;match xs,ys,hx,hy with
 |[a0,a1,a2],[b0,b1,b2],_,_=>
  clear hx hy;rcases lQ with rfl|rfl<;>(simp only[Xm,Xu];go_simp)<;>by_cases h0:a0=b0<;>by_cases h1:a1=b1<;>by_cases h2:a2=b2<;>simp[bne,h0,h1,h2]
theorem Np:AR prog 76 2:=by
 intro w xs ys x y op hx hy lQ;match xs,ys,hx,hy with
 |[a0,a1],[b0,b1],_,_=>
  clear hx hy;rcases lQ with rfl|rfl<;>(simp only[Xm,Xu];go_simp)<;>by_cases h0:a0=b0<;>by_cases h1:a1=b1<;>simp[bne,h0,h1]
theorem Ha:AR prog 39 4:=by
 intro w xs ys x y op hx hy lQ;match xs,ys,hx,hy with
 |[a0,a1,a2,a3],[b0,b1,b2,b3],_,_=>
  clear hx hy;rcases lQ with rfl|rfl<;>(simp only[Xm,Xu];go_simp)<;>by_cases h0:a0=b0<;>by_cases h1:a1=b1<;>by_cases h2:a2=b2<;>by_cases h3:a3=b3<;>simp[bne,h0,h1,h2,h3]
def JO:Nat→Option Nat
 |32=>some 2
 |34=>some 4
 |68=>some 5
 |58=>some 3
 |76=>some 2
 |39=>some 4
 |_=>none
theorem Nq:MapOK prog 108 1 false:=x9 underlying108 underlying3 (by kernel_rfl)
theorem Nr:MapOK prog 109 1 false:=x9 underlying109 underlying3 (by kernel_rfl)
theorem PX:KeyOK prog 95 3 true:=by
 refine Jo (by kernel_rfl) (fun em w xs hx=>?_) (fun w xs ys hx hy=>?_)
 ·match xs,hx with
  |[a0,a1,a2],_=>
   clear hx;simp only[i5,if_true,Xm,Xu];have key:∀n,(Instr.checkKey em (n+1+1+1) 95 (.agg #[.int .i64 a0,.int .i64 a1,.int .i64 a2])).run prog w= .ok () w:=by
    intro n;simp[Instr.checkKey,run_underlying underlying3,run_underlying underlying32,run_underlying underlying95,part,isAgg,go_sem]
   exact key 9997
 ·match xs,ys,hx,hy with
  |[a0,a1,a2],[b0,b1,b2],_,_=>
   clear hx hy;simp only[i5,if_true,Xm,Xu];show (Op.equalIn 10000 95 _ _).run _ _=_;go_simp
   by_cases h0:a0=b0<;>by_cases h1:a1=b1<;>by_cases h2:a2=b2<;>simp[h0,h1,h2]
theorem PY:MapOK prog 92 3 true:=by
 obtain⟨i,hi,hz⟩:=XO.1 (show (prog.info? 3).map (·.zero)=some (some (.int .i64 0)) by kernel_rfl);exact⟨95,3,i,underlying92,hi,hz,PX⟩
theorem Ns:∀t ti n s,xr t=some ti→ti.mp=some (n,s)→MapOK prog t n s:=by
 intro t ti n s h hm;unfold xr at h;split at h
 ·cases h;cases hm
 ·cases h;cases hm
 ·cases h;cases hm
 ·cases h;cases hm
 ·cases h;cases hm
 ·cases h;cases hm
 ·cases h;cases hm
 ·cases h;cases hm
 ·cases h;cases hm
 ·cases h;cases hm
 ·cases h;cases hm
 ·cases h;cases hm
 ·cases h;cases hm
 ·cases h;cases hm
 ·cases h;cases hm
 ·cases h;cases hm
 ·cases h;cases hm
 ·cases h;cases hm
 ·cases h;cases hm
 ·cases h;cases hm
 ·cases h;cases hm
 ·cases h;cases hm
 ·cases h;cases hm
 ·cases h;cases hm
 ·cases h;cases hm
 ·cases h;cases hm
 ·cases h;cases hm
 ·cases h;cases hm
 ·cases h;cases hm
 ·cases h;cases hm
 ·cases h;cases hm
 ·cases h;cases hm
 ·cases h;cases hm
 ·cases h;cases hm
 ·cases h;cases hm
 ·cases h;cases hm
 ·cases h;cases hm
 ·cases h;cases hm
 ·cases h;cases hm
 ·cases h;cases hm
 ·cases h;cases hm
 ·cases h;cases hm
 ·cases h;cases hm
 ·cases h;cases hm
 ·cases h;cases hm
 ·cases h;cases hm;exact Nq
 ·cases h;cases hm;exact Nr
 ·cases h;cases hm;exact PY
 ·cases h
theorem ae:TabOK prog xr JO:=by
 refine⟨Nm,fun t n h=>?_,Ns⟩;unfold JO at h;split at h
 ·cases h;exact G9
 ·cases h;exact No
 ·cases h;exact JM
 ·cases h;exact JN
 ·cases h;exact Np
 ·cases h;exact Ha
 ·cases h
theorem cW {P:Program}{f:Nat}{fn:Func}{c:Code}(hf:P.funcs[f]? =some fn)(SS:(fn.name== "runtime.NumGoroutine")=false)(hb:fn.body=some c):xg P f:=by
 intro args w;simp[callFunc,hf,hb];simpa using SS
theorem R1:(some true==some true)=true:=rfl
theorem R2:(some false==some false)=true:=rfl
theorem R3:(some true==some false)=false:=rfl
theorem R4:(some false==some true)=false:=rfl
theorem R5:((none:Option Bool)==some true)=false:=rfl
theorem R6:((none:Option Bool)==some false)=false:=rfl
section
variable {P:Program}{n m:Nat}{T:Nat→Option TI}{Q:Nat→Option Nat}{K:Exit→cu→List Chunk→Prop}{e:cu}{h:List Chunk}
def u6 (C:cu→List Chunk→Prop)(K:Exit→cu→List Chunk→Prop):Exit→cu→List Chunk→Prop
 | .normal,e,h=>C e h
 |x,e,h=>K x e h
theorem Fz {a b:Code}(hp:∀C:cu→List Chunk→Prop,(∀e h,tn P n m b K e h→C e h)→tn P n m a (u6 C K) e h):tn P n m (.seq a b) K e h:=by
 intro X hX hn qj ac w hr;have:=hp (fun e h=>tn P n m b K e h) (fun _ _ h=>h) X hX hn qj ac w hr;refine wp_seq (wp_mono this fun ex a' w' hq=>?_);obtain⟨e',h',hk,hr'⟩:=hq;cases ex with
 |normal=>exact hk X hX hn qj a' w' hr'
 |_=>exact⟨e',h',hk,hr'⟩
def xt (id:Nat)(C:cu→List Chunk→Prop)(K:Exit→cu→List Chunk→Prop):Exit→cu→List Chunk→Prop
 | .normal,e,h=>C e h
 | .exit i,e,h=>if i=id then C e h else K (.exit i) e h
 |x,e,h=>K x e h
theorem Hb {id:Nat}{c:Code}(hp:∀C:cu→List Chunk→Prop,(∀e h,K .normal e h→C e h)→tn P n m c (xt id C K) e h):tn P n m (.block id c) K e h:=by
 intro X hX hn qj ac w hr;have:=hp (fun e h=>K .normal e h) (fun _ _ h=>h) X hX hn qj ac w hr;refine wp_block (wp_mono this fun ex a' w' hq=>?_);obtain⟨e',h',hk,hr'⟩:=hq;cases ex with
 |exit i=>
  simp only[Exit.inBlock,xt]at*;by_cases hi:i=id
  ·rw[if_pos hi]at hk ⊢;exact⟨e',h',hk,hr'⟩
  ·rw[if_neg hi]at hk ⊢;exact⟨e',h',hk,hr'⟩
 |_=>exact⟨e',h',hk,hr'⟩
def PZ (P:Program)(g:Option Bool)(r:SR)(dst:Option Nat)(e:cu)(h:List Chunk)(sm:List (List Nat × List Nat))(R:cu→List Chunk→List (List Nat × List Nat)→Prop):Prop:=
 match g with
 |some true=>zI P r dst e h sm R
 |some false=>R (gp e dst (.d (.v undef))) h (([],[])::sm)
 |none=>False
section
variable {sm:List (List Nat × List Nat)}{dst:Option Nat}{R:cu→List Chunk→List (List Nat × List Nat)→Prop}
theorem P0 {g:Nat}{ps:List PV}{ds:List D}{r:D}(hv:R0 (aG h) ps=some ds)(hp:af P g ds r)(hf:PW (aG h) ps=[]∨r.flat=true)(hR:R (gp e dst (.d r)) h (([],PW (aG h) ps)::sm)):zI P (.call g ps) dst e h sm R:=
 .inl ⟨ds,r,hv,hp,hf,hR⟩
theorem P1 (ls:List Nat){g:Nat}{ps args:List PV}{h0 h1:List Chunk}{r:PV}(hM:MSpec P g args h0 r h1)(lq:ps=iJ (eC ls h.length) args)(hl:ls.length=h0.length)(lf:ls.Nodup)(hlt:∀k∈ls,k < h.length)(iX:ax (aG h) (eC ls h.length) 0 h0)
 (hR:R (gp e dst (ren (eC ls h.length) r)) (ir (eC ls h.length) 0 h1 h) ((pM ls h.length h1.length,pM ls h.length h1.length)::sm)):zI P (.call g ps) dst e h sm R:=
 .inr (.inl ⟨ls,args,h0,r,h1,hM,lq,hl,lf,hlt,iX,hR⟩)
end
theorem Hc {draw:Bool}{ops:Array Oper}{ds:List (Option Nat)}{o:Oper}{l:List Oper}{sm:List (List Nat × List Nat)}{K:cu→List Chunk→Prop}(hd:JL n o=true)
 (hp:∀R:cu→List Chunk→List (List Nat × List Nat)→Prop,(∀e h sm,t5 P n T Q draw ops ds l e h sm K→R e h sm)→PZ P (sb ds e o) (MG T Q e h o) o.dst e h sm R):t5 P n T Q draw ops ds (o::l) e h sm K:=by
 have hp:=hp (t5 P n T Q draw ops ds l · · · K) fun _ _ _ h=>h;unfold t5;unfold PZ at hp;split at hp
 ·rename_i g hg;rw[hg];exact⟨hd,fun _=>hp,fun h=>by cases h⟩
 ·rename_i g hg;rw[hg];exact⟨hd,(fun h=>(by cases h)),fun _=>hp⟩
 ·exact hp.elim
theorem JP {c:Operand}{a b:Code}{t:Bool}(hc:dI e c= .d (.v (.bool t)))(h1:t=true→tn P n m a K e h)(h2:t=false→tn P n m b K e h):tn P n m (.cond c a b) K e h:=by
 intro X hX hn qj ac w hr;have hv:ac.eval c= .bool t:=by
  obtain⟨cx,jC⟩:=hr;exact cZ jC ((aD e h c).trans hc)
 refine wp_cond hv ?_;cases t with
 |true=>exact h1 rfl X hX hn qj ac w hr
 |false=>exact h2 rfl X hX hn qj ac w hr
theorem JQ (h1:K .normal e h):tn P n m .skip K e h:=fun X _ _ _ a w hr=>wp_skip ⟨e,h,h1,hr⟩
theorem JR {id:Nat}(h1:K (.exit id) e h):tn P n m (.exit id) K e h:=fun X _ _ _ a w hr=>wp_exit ⟨e,h,h1,hr⟩
theorem Nt (h1:K .ret e h):tn P n m .ret K e h:=fun X _ _ _ a w hr=>wp_ret ⟨e,h,h1,hr⟩
theorem He {l:Nat}(h1:K .normal e h):tn P n m (.label l) K e h:=fun X _ _ _ a w hr=>wp_label ⟨e,h,h1,hr⟩
theorem Bz {c:Code}(I:Nat→cu→List Chunk→Prop)(mm:Nat)(e1:cu)(h1:List Chunk)(h0:I mm e1 h1)(hw:ew P n m e h e1 h1)
 (hr:∀k e h,I k e h→∀C:cu→List Chunk→Prop,(∀k' e1 h1 e h,k' < k→I k' e1 h1→ew P n m e h e1 h1→C e h)→tn P n m c (u6 C K) e h):tn P n m (.loop c) K e h:=by
 intro X hX hn qj a w mG;refine wp_loop_ghost (fun k a w=>∃e h,I k e h∧j7 X (bQ e h) a w) mm ⟨e1,h1,h0,hw X hX hn qj a w mG⟩ ?_;rintro k a w ⟨e,h,hI,mG⟩;have:=hr k e h hI (fun e' h'=>∃k' e1 h1,k' < k∧I k' e1 h1∧ew P n m e' h' e1 h1) (fun k' e1 h1 e h a b c=>⟨k',e1,h1,a,b,c⟩) X hX hn qj a w mG;refine wp_mono this fun ex a' w' hq=>?_;obtain⟨e',h',hk,hr'⟩:=hq;cases ex with
 |normal=>
  obtain⟨k',e2,h2,hlt,lS,cA⟩:=hk;exact⟨k',hlt,e2,h2,lS,cA X hX hn qj a' w' hr'⟩
 |_=>exact⟨e',h',hk,hr'⟩
end
theorem sf {P:Program}{n m:Nat}{e e':cu}{h:List Chunk}(hl:∀t,fp e' t= .any∨fp e' t=fp e t):ew P n m e h e' h:=by
 intro X _ _ _ a w hr;obtain⟨c,hc⟩:=hr;refine⟨c,hc.size,hc.defers,hc.ext,hc.inv,hc.fresh,hc.mu,hc.new,hc.apart,fun t=>?_,hc.chunk,hc.lent⟩;show RepP c w (fp e' t) _;rcases hl t with h|h
 ·rw[h];exact .any _
 ·rw[h];exact hc.env t
theorem ak:prog.follows .mixedOrders=true:=by kernel_rfl
theorem ew.refl (P:Program)(n m:Nat)(e:cu)(h:List Chunk):ew P n m e h e h:=fun _ _ _ _ _ _ h=>h
theorem gG (l:List (List D))(i:Nat):(ab l)[i]? =(l[i]?).map (·.map .d):=by simp[ab]
theorem aF (l:List (List D)):(ab l).length=l.length:=by simp[ab]
theorem aI (a b:List (List D)):ab a++ab b=ab (a++b):=by simp[ab]
theorem oQ {h:List Chunk}{k:Nat}(hk:aG h k≠ .none):k < h.length:=by
 induction h generalizing k with
 |nil=>simp[aG]at hk
 |cons c l ih=>
  cases k with
  |zero=>simp
  |succ k=>simpa using ih (by simpa[aG]using hk)
def Cx.cut (c:Cx)(n:Nat):Cx:={M:=c.M,bl:=fun k=>if k < n then c.bl k else none,ov:=fun k g=>if k < n then c.ov k g else none}
theorem RepP.cut {c:Cx}{w:World}{n:Nat}{p:PV}{v:Value}(h:RepP c w p v):aq n p=true→RepP (c.cut n) w p v:=by
 induction h with
 |d x v h=>intro _;exact .d x v h
 |any v=>intro _;exact .any v
 |ptr k off b h=>intro hb;simp only[aq,decide_eq_true_eq]at hb;exact .ptr k off b (by show (if k < n then c.bl k else none)=_;rw[if_pos hb];exact h)
 |own k g v h h1=>intro hb;simp only[aq,decide_eq_true_eq]at hb;exact .own k g v (by show (if k < n then c.ov k g else none)=_;rw[if_pos hb];exact h) h1
 |rp k g sz i j b m cap h=>intro hb;simp only[aq,decide_eq_true_eq]at hb;exact .rp k g sz i j b m cap (by show (if k < n then c.ov k g else none)=_;rw[if_pos hb];exact h)
 |osl k g sz a m b o N cap h hn hc h2=>intro hb;simp only[aq,decide_eq_true_eq]at hb;exact .osl k g sz a m b o N cap (by show (if k < n then c.ov k g else none)=_;rw[if_pos hb];exact h) hn hc h2
 |mref k b h=>intro hb;simp only[aq,decide_eq_true_eq]at hb;exact .mref k b (by show (if k < n then c.bl k else none)=_;rw[if_pos hb];exact h)
 |agg caps vs hl h1 bA ih=>
  intro hb;simp only[aq]at hb;exact .agg caps vs hl h1 fun j d x hj hx=>ih j d x hj hx (jk hb d (Xl hj))
 |tup caps vs hl bA ih=>
  intro hb;simp only[aq]at hb;exact .tup caps vs hl fun j d x hj hx=>ih j d x hj hx (jk hb d (Xl hj))
 |clo g caps vs hl bA ih=>
  intro hb;simp only[aq]at hb;exact .clo g caps vs hl fun j d x hj hx=>ih j d x hj hx (jk hb d (Xl hj))
theorem BA:∀{e e':cu},GV e e'→∀t,fp e' t= .any∨fp e' t=fp e t
 |_,[],_,_=> .inl rfl
 |e,(t',p)::l,⟨h1,h2⟩,t=>by
  simp only[fp];by_cases ht:t=t'
  ·rw[if_pos ht,ht];exact .inr h1.symm
  ·rw[if_neg ht];exact BA h2 t
theorem oR:∀(h x:List Chunk) (k:Nat),k < h.length→aG (h++x) k=aG h k
 |c::l,x,0,_=>rfl
 |c::l,x,k+1,hk=>by simpa[aG]using oR l x k (by simpa using hk)
theorem mP:∀(h:List Chunk) (k:Nat),h.length≤k→aG h k= .none
 |[],_,_=>rfl
 |c::l,0,h=>by simp at h
 |c::l,k+1,h=>by simpa[aG]using mP l k (by simpa using h)
theorem ec {P:Program}{n m:Nat}{e e':cu}{h h':List Chunk}(x:List Chunk)(hm:m≤h'.length)(hh:h=h'++x)(he:GV e e')(hb:eh h'.length e'=true)(hbh:aH h'.length h'=true):ew P n m e h e' h':=by
 intro X _ _ qj a w hr;obtain⟨c,hc⟩:=hr;subst hh;have hf:=hc.freeze ((X5 x.length).map (h'.length+ ·));have fR:∀k,k∈(X5 x.length).map (h'.length+ ·)↔h'.length≤k∧k < h'.length+x.length:=by
  intro k;simp only[XQ,YR];constructor
  ·rintro⟨j,hj,rfl⟩;omega
  ·intro hk;exact⟨k - h'.length,by omega,by omega⟩
 have xI:∀k,k < h'.length→cE (((X5 x.length).map (h'.length+ ·)).map fun k=>(k,.gone)) (aG (h'++x)) k=aG h' k:=by
  intro k hk;rw[ma,if_neg (fun h=>by have:=(fR k).1 h;omega),oR h' x k hk]
 have GC:∀k,h'.length≤k→∀c:Cx,c.block k (cE (((X5 x.length).map (h'.length+ ·)).map fun k=>(k,.gone)) (aG (h'++x)) k)=none:=by
  intro k hk c;rw[ma];split
  ·rfl
  ·rename_i hn;have:h'.length+x.length≤k:=by
    rcases XP k (h'.length+x.length)with h1|h1
    ·exact absurd ((fR k).2 ⟨hk,h1⟩) hn
    ·exact h1
   rw[mP _ k (by simpa using this)];rfl
 generalize ef:({c with M:=lw c (bQ e (h'++x)).heap ((X5 x.length).map (h'.length+ ·))}:Cx)=cc at hf;have cG:∀k,(cc.cut h'.length).block k (aG h' k)=if k < h'.length then cc.block k (aG h' k)else none:=by
  intro k;by_cases hk:k < h'.length
  ·rw[if_pos hk];cases aG h' k<;>simp[Cx.block,Cx.cut,hk]
  ·rw[if_neg hk,mP h' k (by omega)];rfl
 have hold:∀k b,(cc.cut h'.length).block k (aG h' k)=some b→cc.block k (cE (((X5 x.length).map (h'.length+ ·)).map fun k=>(k,.gone)) (aG (h'++x)) k)=some b:=by
  intro k b hb;rw[cG]at hb;split at hb
  ·rename_i hk;rw[xI k hk];exact hb
  ·cases hb
 refine⟨cc.cut h'.length,hf.size,hf.defers,hf.ext,hf.inv,hf.fresh,fun b=>?_,fun k b hb=>hf.new k b (hold k b hb),fun k k' b hb hb'=>hf.apart k k' b (hold k b hb) (hold k' b hb'),fun t=>?_,fun k=>?_,fun k hk=>?_⟩
 ·show cc.M b↔_;rw[hf.mu b];constructor
  ·rintro (h0|⟨k,hk⟩)
   ·exact .inl h0
   ·refine .inr ⟨k,?_⟩;show (cc.cut h'.length).block k (aG h' k)=_;rw[cG];rcases XP k h'.length with h1|h1
    ·rw[if_pos h1];have:=xI k h1;simp only[bQ]at hk;rw[this]at hk;exact hk
    ·simp only[bQ]at hk;rw[GC k h1]at hk;cases hk
  ·rintro (h0|⟨k,hk⟩)
   ·exact .inl h0
   ·exact .inr ⟨k,hold k b hk⟩
 ·show RepP (cc.cut h'.length) w (fp e' t) _;rcases BA he t with h0|h0
  ·rw[h0];exact .any _
  ·have h1:=uM hb t;rw[h0]at h1 ⊢;exact(hf.env t).cut h1
 ·show ChunkOK (cc.cut h'.length) w k (aG h' k);rcases XP k h'.length with h1|h1
  ·have bc:=hf.chunk k;simp only[bQ]at bc;rw[xI k h1]at bc;have GD:=rZ hbh k;have tP:(cc.cut h'.length).bl k=cc.bl k:=by show (if k < h'.length then cc.bl k else none)=_;rw[if_pos h1]
   have ee:∀g,(cc.cut h'.length).ov k g=cc.ov k g:=fun g=>by show (if k < h'.length then cc.ov k g else none)=_;rw[if_pos h1]
   cases OI:aG h' k with
   |none=>rw[OI]at bc;cases bc with|none q1 q2=>exact .none (by rw[tP];exact q1) (fun g=>by rw[ee];exact q2 g)
   |gone=>exact .gone
   |box T cells=>
    rw[OI]at bc GD;cases bc with
    |box _ _ b vs q1 q2 q3 q4=>
     exact .box T cells b vs (by rw[tP];exact q1) q2 ⟨q3.1,fun j d v hj hv=>(q3.2 j d v hj hv).cut (jk (by simpa[aQ]using GD) d (Xl hj))⟩ q4
   |mp nB sB ents=>
    rw[OI]at bc;cases bc with
    |mp _ _ _ b q1 q2 q3=>exact .mp nB sB ents b (by rw[tP];exact q1) q2 q3
   |it nB sB ents seen=>
    rw[OI]at bc;cases bc with
    |it _ _ _ _ b bm q1 q2 q3 q4=>exact .it nB sB ents seen b bm (by rw[tP];exact q1) q2 q3 q4
   |row E sz g rows=>
    rw[OI]at bc GD;cases bc with
    |row _ _ _ _ v xs q1 q2 q3 q4 q5 q6=>exact .row E sz g rows v xs (by rw[ee];exact q1) q2 ⟨q3.1,fun j d v hj hv=>(q3.2 j d v hj hv).cut (jk (tj (by simpa[aQ]using GD)) d (Xl hj))⟩ q4 q5 (fun g' hg=>by rw[ee];exact q6 g' hg)
  ·rw[mP h' k h1];refine .none ?_ fun g=>?_
   ·show (if k < h'.length then cc.bl k else none)=_;rw[if_neg (by omega)]
   ·show (if k < h'.length then cc.ov k g else none)=_;rw[if_neg (by omega)]
 ·have hk':k < h'.length:=by omega
  obtain⟨q1,q2⟩:=hf.lent k hk;refine⟨?_,fun g v hv=>?_⟩
  ·show (if k < h'.length then cc.bl k else none)=_;rw[if_pos hk'];exact q1
  ·show (if k < h'.length then cc.ov k g else none)=_;rw[if_pos hk'];exact q2 g v hv
theorem ew.trans {P:Program}{n m:Nat}{e e' e'':cu}{h h' h'':List Chunk}(h1:ew P n m e h e' h')(h2:ew P n m e' h' e'' h''):ew P n m e h e'' h'':=fun X hX hn hm a w hr=>h2 X hX hn hm a w (h1 X hX hn hm a w hr)
theorem jG (h:List Chunk)(c:Chunk)(k:Nat):aG (h++[c]) k=if k=h.length then c else aG h k:=by
 rcases Zb k h.length with h1|h1|h1
 ·rw[oR h [c] k h1,if_neg (by omega)]
 ·subst h1;rw[if_pos rfl];induction h with
  |nil=>rfl
  |cons a l ih=>exact ih
 ·rw[if_neg (by omega),mP _ k (by simp;omega),mP h k (by omega)]
theorem cS {P:Program}{n m:Nat}{e:cu}{h:List Chunk}(li:m≤h.length)(t E sz:Nat)(ht:fp e t= .d (.v (.slice none 0 0))):ew P n m e h ((t,.own h.length 0)::e) (h++[.row E sz 0 []]):=by
 intro X _ _ qj a w hr;obtain⟨c,hc⟩:=hr;obtain⟨c',q1,q2⟩:=hc.new_row (k:=h.length) (w':=w) (go h) (by omega) E sz [] (.slice none 0 0) [] (Below.refl _ _) .nil (fun b hb=>by cases hb) ⟨rfl,fun j d x h=>by simp at h⟩ (by simp) (by simp);have hv:a.tmps.getD t undef= .slice none 0 0:=hc.bool ht;refine⟨c',q1.size,q1.defers,q1.ext,q1.inv,q1.fresh,?_,?_,?_,fun t'=>?_,?_,q1.lent⟩
 ·intro b;have:=q1.mu b;simp only[qt,bQ]at this ⊢;simpa[jG]using this
 ·intro k b;have:=q1.new k b;simp only[qt,bQ]at this ⊢;simpa[jG]using this
 ·intro k k' b;have:=q1.apart k k' b;simp only[qt,bQ]at this ⊢;simpa[jG]using this
 ·simp only[bQ,fp];by_cases h1:t'=t
  ·subst h1;rw[if_pos rfl,hv];exact q2
  ·rw[if_neg h1];exact q1.env t'
 ·intro k;have:=q1.chunk k;simp only[qt,bQ]at this ⊢;simpa[jG]using this
theorem au {P:Program}{n m:Nat}{e:cu}{h:List Chunk}(li:m≤h.length)(kb T:Nat)(cells:List PV)(j E sz:Nat)(hk:aG h kb= .box T cells)(hj:cells[j]? =some (.d (.v (.slice none 0 0)))){h':List Chunk}(hh:h'=bw h kb (.box T (ay cells j [.own h.length 0]))++[.row E sz 0 []]):ew P n m e h e h':=by
 intro X _ _ qj a w hr;subst hh;obtain⟨c,hc⟩:=hr;obtain⟨c',q1,q2⟩:=hc.new_row (k:=h.length) (w':=w) (go h) (by omega) E sz [] (.slice none 0 0) [] (Below.refl _ _) .nil (fun b hb=>by cases hb) ⟨rfl,fun j d x h=>by simp at h⟩ (by simp) (by simp);have hlt:kb < h.length:=oQ (by rw[hk];simp);have L8:j < cells.length:=(Xn.1 hj).1;have o9:(bw h kb (.box T (ay cells j [.own h.length 0]))).length=h.length:=by
  have:∀(l:List Chunk) (k:Nat) (c:Chunk),k < l.length→(bw l k c).length=l.length:=by
   intro l;induction l with
   |nil=>intro k c hk;simp at hk
   |cons a l ih=>
    intro k c hk;cases k with
    |zero=>rfl
    |succ k=>simp only[bw,XA];rw[ih k c (by simpa using hk)]
  exact this h kb _ hlt
 have cY:∀k,aG (bw h kb (.box T (ay cells j [.own h.length 0]))++[.row E sz 0 []]) k=if k=h.length then .row E sz 0 []else if k=kb then .box T (ay cells j [.own h.length 0])else aG h k:=by
  intro k;rw[jG,o9,gF (by omega)]
 have hold:∀k,cE [(h.length,Chunk.row E sz 0 [])] (aG h) k=if k=h.length then .row E sz 0 []else aG h k:=fun k=>rfl;have cG:∀k,c'.block k (aG (bw h kb (.box T (ay cells j [.own h.length 0]))++[.row E sz 0 []]) k)=c'.block k (cE [(h.length,Chunk.row E sz 0 [])] (aG h) k):=by
  intro k;rw[cY,hold];by_cases h1:k=h.length
  ·rw[if_pos h1,if_pos h1]
  ·rw[if_neg h1,if_neg h1];by_cases h2:k=kb
   ·subst h2;rw[if_pos rfl,hk];rfl
   ·rw[if_neg h2]
 refine⟨c',q1.size,q1.defers,q1.ext,q1.inv,q1.fresh,?_,?_,?_,q1.env,?_,q1.lent⟩
 ·intro b;have:=q1.mu b;simp only[bQ]at this ⊢;simpa only[cG]using this
 ·intro k b;have:=q1.new k b;simp only[bQ]at this ⊢;rwa [cG]
 ·intro k k' b;have:=q1.apart k k' b;simp only[bQ]at this ⊢;rwa [cG,cG]
 ·intro k;have bc:=q1.chunk k;simp only[bQ]at bc ⊢;rw[cY];rw[hold]at bc;by_cases h1:k=h.length
  ·rw[if_pos h1]at bc ⊢;exact bc
  ·rw[if_neg h1]at bc ⊢;by_cases h2:k=kb
   ·subst h2;rw[if_pos rfl];rw[hk]at bc;have Ay:=hc.chunk k;simp only[bQ]at Ay;rw[hk]at Ay;cases bc with
    |box _ _ b vs g1 g2 g3 g4=>
     have WV:vs[j]? =some (.slice none 0 0):=by
      have WW:j < vs.length:=by rw[←g3.1];exact L8
      obtain⟨u,hu⟩:∃u,vs[j]? =some u:=⟨_,Xk WW⟩;have:=g3.2 j _ u hj hu;cases this with
      |d _ _ h=>cases h;exact hu
     have gM:ay vs j [.slice none 0 0]=vs:=by
      apply Yj;intro i;rw[ip (by simp;rw[←g3.1];exact L8)];split
      ·rename_i hi;obtain rfl:i=j:=by simp at hi;omega
       rw[WV];simp
      ·rfl
     have rR:bG c' w [.own h.length 0] [.slice none 0 0]:=⟨rfl,fun i d x hd hx=>by
      cases i with
      |zero=>simp at hd hx;subst hd;subst hx;exact q2
      |succ i=>simp at hd⟩
     have j5:=lY (off:=j) g3 rR (by simp;omega);rw[gM]at j5;exact .box T _ b vs g1 g2 j5 (fun d hd=>(ku hd).elim (g4 d) (fun hd=>by simp at hd;subst hd;rfl))
   ·rw[if_neg h2];exact bc
mutual
def fz (k g:Nat)(d:D):PV→PV
 | .own k' g'=>if k'=k∧g'=g then .d d else .own k' g'
 | .clo f caps=> .clo f (gr k g d caps)
 | .agg l=> .agg (gr k g d l)
 | .tup l=> .tup (gr k g d l)
 | .d x=> .d x
 | .any=> .any
 | .ptr k' o=> .ptr k' o
 | .rp k' g' sz i j=> .rp k' g' sz i j
 | .osl k' g' sz a n=> .osl k' g' sz a n
 | .mref k'=> .mref k'
def gr (k g:Nat)(d:D):List PV→List PV
 |[]=>[]
 |p::l=>fz k g d p::gr k g d l
end
theorem lx (k g:Nat)(d:D):∀l,gr k g d l=l.map (fz k g d)
 |[]=>rfl
 |p::l=>by simp only[gr,lx k g d l,Xm]
theorem bW (k g:Nat)(d:D):∀(l:List D),gr k g d (l.map .d)=l.map .d
 |[]=>rfl
 |x::l=>by simp only[Xm,gr,fz,bW k g d l]
def f5 (k g:Nat)(d:D):List (List PV)→List (List PV)
 |[]=>[]
 |r::l=>gr k g d r::f5 k g d l
theorem oS (k g:Nat)(d:D):∀l,f5 k g d l=l.map (·.map (fz k g d))
 |[]=>rfl
 |p::l=>by simp only[f5,oS k g d l,lx,Xm]
theorem bR (k g:Nat)(d:D):∀(l:List (List D)),f5 k g d (ab l)=ab l
 |[]=>rfl
 |x::l=>by
  have:=bR k g d l;simp only[ab]at this;simp only[ab,Xm,f5,bW,this]
theorem FA (k g:Nat)(d:D)(l:List (List PV))(i:Nat)(r:List PV):f5 k g d (l.set i r)=(f5 k g d l).set i (gr k g d r):=by
 simp only[oS,lx,List.map_set]
def gV (k g:Nat)(d:D):Chunk→Chunk
 | .box T cells=> .box T (gr k g d cells)
 | .row E sz g' rows=> .row E sz g' (f5 k g d rows)
 |c=>c
def iu (k g:Nat)(d:D):cu→cu
 |[]=>[]
 |(t,p)::l=>(t,fz k g d p)::iu k g d l
def f7 (k g:Nat)(d:D):Nat→List Chunk→List Chunk
 |_,[]=>[]
 |j,c::l=>(if j=k then .gone else gV k g d c)::f7 k g d (j+1) l
theorem BB (k g:Nat)(d:D):∀(e:cu) (t:Nat),fp (iu k g d e) t=fz k g d (fp e t)
 |[],t=>rfl
 |(t',p)::l,t=>by
  simp only[iu,fp];by_cases h:t=t'
  ·rw[if_pos h,if_pos h]
  ·rw[if_neg h,if_neg h];exact BB k g d l t
theorem FB (k g:Nat)(d:D):∀(h:List Chunk) (j i:Nat),aG (f7 k g d j h) i=if i+j=k then (if i < h.length then .gone else .none)else gV k g d (aG h i)
 |[],j,i=>by simp[f7,aG,gV]
 |c::l,j,0=>by
  simp only[f7,aG,XG,XA,Nat.zero_lt_succ,if_true]
 |c::l,j,i+1=>by
  simp only[f7,aG];rw[FB k g d l (j+1) i];have e1:(i+(j+1)=k)=(i+1+j=k):=by apply propext;omega
  have e2:(i < l.length)=(i+1 < (c::l).length):=by apply propext;simp
  simp only[e1,e2]
theorem ap {P:Program}{n m:Nat}{e:cu}{h:List Chunk}(k g E sz:Nat)(rows:List (List D))(hk:aG h k= .row E sz g (ab rows)):ew P n m e h (iu k g (.sl sz rows) e) (f7 k g (.sl sz rows) 0 h):=by
 intro X _ _ qj a w hr;obtain⟨c,hc⟩:=hr;have hf:=hc.freeze [k];generalize ef:({c with M:=lw c (bQ e h).heap [k]}:Cx)=cc at hf;have tP:cc.bl=c.bl:=by rw[←ef]
 have ee:cc.ov=c.ov:=by rw[←ef]
 have TG:cc.M=lw c (aG h) [k]:=by rw[←ef];rfl
 have hlt:k < h.length:=oQ (by rw[hk];simp);have key:∀(p:PV) (v:Value),RepP cc w p v→RepP cc w (fz k g (.sl sz rows) p) v:=by
  intro p v hp;induction hp with
  |own k' g' v h1 h2=>
   simp only[fz];by_cases e:k'=k∧g'=g
   ·rw[if_pos e];obtain⟨rfl,rfl⟩:=e;refine .d _ _ ?_;rw[TG];have hv:bp (bQ e h).heap 1 (.own k' g')=some (.sl sz rows):=by
     simp only[bp,bQ,hk,if_true,eG,Ye]
    exact kG hc (T:=[k']) 1 hv (fun k2 iV=>by simpa[cT,bQ,hk,nU]using iV) (.own k' g' v (by rw[←ee];exact h1) h2)
   ·rw[if_neg e];exact .own k' g' v h1 h2
  |clo f caps vs hl bA ih=>
   simp only[fz,lx];refine .clo f _ vs (by rw[XC];exact hl) fun j d x hj hx=>?_;rw[Xz,XO]at hj;obtain⟨y,hy,rfl⟩:=hj;exact ih j y x hy hx
  |agg caps vs hl h1 bA ih=>
   simp only[fz,lx];refine .agg _ vs (by rw[XC];exact hl) (fun d hd=>?_) fun j d x hj hx=>?_
   ·obtain⟨y,hy,rfl⟩:=XQ.1 hd;have:=h1 y hy;cases y<;>simp only[fz]<;>first|exact this|(split<;>first|rfl|exact this)
   ·rw[Xz,XO]at hj;obtain⟨y,hy,rfl⟩:=hj;exact ih j y x hy hx
  |tup caps vs hl bA ih=>
   simp only[fz,lx];refine .tup _ vs (by rw[XC];exact hl) fun j d x hj hx=>?_;rw[Xz,XO]at hj;obtain⟨y,hy,rfl⟩:=hj;exact ih j y x hy hx
  |d x v h1=>exact .d x v h1
  |any v=>exact .any v
  |ptr k' off b h1=>exact .ptr k' off b h1
  |rp k' g' sz' i j b nn cap h1=>exact .rp k' g' sz' i j b nn cap h1
  |osl k' g' sz' a' nn b o N cap h1 h2 h3 h4=>exact .osl k' g' sz' a' nn b o N cap h1 h2 h3 h4
  |mref k' b h1=>exact .mref k' b h1
 have one:∀(y:PV),y.one=true→(fz k g (.sl sz rows) y).one=true:=by
  intro y hy;cases y<;>simp only[fz]<;>first|exact hy|(split<;>first|rfl|exact hy)
 have keys:∀(l:List PV) (vs:List Value),bG cc w l vs→bG cc w (l.map (fz k g (.sl sz rows))) vs:=by
  intro l vs hl;refine⟨by rw[XC];exact hl.1,fun j d x hj hx=>?_⟩;rw[Xz,XO]at hj;obtain⟨y,hy,rfl⟩:=hj;exact key _ _ (hl.2 j y x hy hx)
 have cY:∀i,aG (f7 k g (.sl sz rows) 0 h) i=gV k g (.sl sz rows) (cE ([k].map fun k=>(k,.gone)) (aG h) i):=by
  intro i;rw[FB,ma,XW];by_cases e:i=k
  ·subst e;rw[if_pos rfl,if_pos hlt,if_pos (by simp)];rfl
  ·rw[if_neg e,if_neg (by simpa using e)]
 have ph:∀i ch,cc.block i (gV k g (.sl sz rows) ch)=cc.block i ch:=fun i ch=>by cases ch<;>rfl
 refine⟨cc,hf.size,hf.defers,hf.ext,hf.inv,hf.fresh,fun b=>?_,fun i b hb=>?_,fun i j b hb hb'=>?_,fun t=>?_,fun i=>?_,hf.lent⟩
 ·rw[hf.mu b];simp only[bQ,cY,ph]
 ·simp only[bQ,cY,ph]at hb;exact hf.new i b hb
 ·simp only[bQ,cY,ph]at hb hb';exact hf.apart i j b hb hb'
 ·show RepP cc w (fp (iu k g (.sl sz rows) e) t) _;rw[BB];exact key _ _ (hf.env t)
 ·have bc:=hf.chunk i;simp only[bQ,cY]at bc ⊢;generalize cE ([k].map fun k=>(k,.gone)) (aG h) i=ch at bc;cases bc with
  |none h1 h2=>exact .none h1 h2
  |gone=>exact .gone
  |mp nB sB ents b h1 h2 h3=>exact .mp nB sB ents b h1 h2 h3
  |it nB sB ents seen b bm h1 h2 h3 h4=>exact .it nB sB ents seen b bm h1 h2 h3 h4
  |box T cells b vs h1 h2 h3 h4=>
   refine .box T _ b vs h1 h2 (by rw[lx];exact keys _ _ h3) (fun d hd=>?_);rw[lx]at hd;obtain⟨y,hy,rfl⟩:=XQ.1 hd;exact one y (h4 y hy)
  |row E' sz' g' rows' v xs h1 h2 h3 h4 h5 h6=>
   refine .row E' sz' g' _ v xs h1 (by rw[oS,XC];exact h2) (by rw[oS,←List.map_flatten];exact keys _ _ h3) (fun r hr=>?_) (fun r hr d hd=>?_) h6
   ·rw[oS]at hr;obtain⟨y,hy,rfl⟩:=XQ.1 hr;rw[XC];exact h4 y hy
   ·rw[oS]at hr;obtain⟨y,hy,rfl⟩:=XQ.1 hr;obtain⟨z,hz,rfl⟩:=XQ.1 hd;exact one z (h5 y hy z hz)
theorem bo {P:Program}{n m:Nat}{e e':cu}{h h':List Chunk}(he:e=e')(hh:h=h'):ew P n m e h e' h':=by
 subst he;subst hh;exact ew.refl _ _ _ _ _
section
open Go.Proofs
def D8 (n:Int):Int:=2 ^ (16 - n).toNat - 1
theorem zK (n:Int):D8 n=((2 ^ (16 - n).toNat - 1:Nat):Int):=by
 have:=Z' (n:=(16 - n).toNat);have h4:((2 ^ (16 - n).toNat:Nat):Int)=(2:Int) ^ (16 - n).toNat:=by simp
 unfold D8;omega
theorem u7 (n:Int)(h0:0≤n):(2:Int) ^ (16 - n).toNat≤65536∧1≤(2:Int) ^ (16 - n).toNat:=by
 have h1:(16 - n).toNat≤16:=by omega
 have h2:=Nat.pow_le_pow_right (n:=2) (by omega) h1;have h3:=Z' (n:=(16 - n).toNat);have h4:((2 ^ (16 - n).toNat:Nat):Int)=(2:Int) ^ (16 - n).toNat:=by simp
 omega
theorem pS (n:Int)(h0:0≤n):0≤D8 n∧D8 n≤65535:=by
 have:=u7 n h0;unfold D8;omega
theorem nZ (n:Int)(w:World)(h0:0≤n)(h1:n≤16):
 Calls prog 49 #[.int .i64 n] w fun e w'=>e= .returned (.int .i64 (D8 n))∧w=w':=by
 have hp:=u7 n h0;go_enter func49,ntmps49
 go_wp2
 go_ret
 exact⟨rfl,rfl⟩
def chk (a l:Int):Int:=if l < 0∨l>16∨a < 0∨a>65535 then 3 else if a % 2 ^ (16 - l).toNat=0 then 0 else 1
theorem Nu (a l:Int)(h0:0≤a)(h1:a≤65535)(h2:0≤l):bits .and .i64 a (D8 l)=a % 2 ^ (16 - l).toNat:=by
 obtain⟨n,rfl⟩:=Int.eq_ofNat_of_zero_le h0;rw[zK,By _ _ (by omega) (by have:=pS l h2;rw[zK]at this;omega),U'];simp
theorem JS {a l:Int}(h:l < 0∨l>16∨a < 0∨a>65535):chk a l=3:=if_pos h
theorem D9 {a l:Int}(h1:0≤l)(h2:l≤16)(h3:0≤a)(h4:a≤65535):chk a l=if a % 2 ^ (16 - l).toNat=0 then 0 else 1:=if_neg (by omega)
theorem oT (a l:Int)(w:World):
 Calls prog 114 #[.agg #[.int .i64 a,.int .i64 l]] w fun e w'=>e= .returned (.int .i64 (chk a l))∧dw w w':=by
 by_cases hl:l < 0∨l>16∨a < 0∨a>65535
 ·have hc:=Xj (JS hl);by_cases h1:l < 0
  ·clear hl;go_enter func114,ntmps114
   go_wp2_with fail
   go_ret
   exact⟨ce hc.out.symm,(Below.refl _ _).alloc (XB _) _⟩
  by_cases h2:l>16
  ·clear hl;go_enter func114,ntmps114
   go_wp2_with fail
   go_ret
   exact⟨ce hc.out.symm,(Below.refl _ _).alloc (XB _) _⟩
  by_cases h3:a < 0
  ·clear hl;go_enter func114,ntmps114
   go_wp2_with fail
   go_ret
   exact⟨ce hc.out.symm,(Below.refl _ _).alloc (XB _) _⟩
  have h4:a>65535:=by omega
  clear hl;go_enter func114,ntmps114
  go_wp2_with fail
  go_ret
  exact⟨ce hc.out.symm,(Below.refl _ _).alloc (XB _) _⟩
 ·have hm:=pS l (by omega);obtain⟨g1,g2,g3,g4⟩:0≤l∧l≤16∧0≤a∧a≤65535:=by omega
  clear hl;have hc:=Xj (D9 g1 g2 g3 g4);have ha:=Xj (Nu a l g3 g4 g1);go_enter func114,ntmps114
  go_wp2_with fail
  go_quiet ((go_at_call 49;exact Calls.quiet_of_same ((nZ _ _ (by omega) (by omega)).mono (fun _ _ h=>⟨h.1,h.2.symm⟩))))
  go_wp2_with fail
  ·go_ret
   rename_i h;rw[ha.out]at h;exact⟨ce (by rw[hc.out,if_neg (by simpa using h)]),below_drewN ((Below.refl _ _).alloc (XB _) _) _⟩
  ·go_ret
   rename_i h;rw[ha.out]at h;exact⟨ce (by rw[hc.out,if_pos (by simpa using h)]),below_drewN ((Below.refl _ _).alloc (XB _) _) _⟩
structure Pfx where
 at_:Int
 len:Int
 deriving DecidableEq
def db (cs:List Value)(p:Pfx):Prop:=cs=[.int .i64 p.at_,.int .i64 p.len]
def Pfx.chk (p:Pfx):Int:=Go.Proofs.YtmicljipaiohkaaGreat.chk p.at_ p.len
theorem yk {A:lU}{w:World}{ao:Option Addr}{cap:Nat}{l:List Pfx}(h:Sl A w 2 db ao cap l):
 Calls prog 48 #[.slice ao l.length cap] w fun e w'=>e= .returned (.bool (l.all fun p=>p.chk==0))∧dw w w':=by
 have fS:=h.cap_le;have I2:=h.cap_max;go_enter func48,ntmps48
 go_wp2_with fail
 go_loopw [7] (fun i wr=>∃k:Nat,k≤l.length∧i= .int .i64 k∧(∀p∈l.take k,p.chk=0)∧Bel w.heap.size w wr) (fun i _=>l.length - (intOf i).toNat)
 case atStart=>exact⟨0,XD _,rfl,by simp,Bel.refl _⟩
 case round=>
  obtain⟨k,hk,rfl,bP,hb⟩:=hrel;by_cases hlt:k < l.length
  ·obtain⟨b,off,cs,WX,-,-,hR,hc⟩:=h.elem k hlt;generalize hp:l[k]=p at hR;unfold db at hR;subst hR;have IL:=hc 0 (by simp);have OS:=hc 1 (by simp);simp at IL OS;have tP:=dC IL;have IL:=hb.cell tP IL;have OS:=hb.cell tP OS;replace hp:=Xj hp;replace bP:=Xj bP;clear hc;subst WX;go_wp2_with fail
   have hle:=hb.le;refine(oT _ _ _).mono ?_;rintro e w1 ⟨rfl,cj⟩;have Pz:Bel w.heap.size w w1:=by(repeat(first|with_reducible assumption|with_reducible exact Bel.refl _|with_reducible refine Bel.alloc ?_ _|with_reducible refine Bel.drewN ?_ _|with_reducible refine Bel.drew ?_|(with_reducible refine Bel.setCell0 ?_ ?_ _;rotate_left;(first|omega|(simp;done)|(simp;omega)))|(with_reducible refine Bel.setCell ?_ (p:=_) ?_ _;rotate_left;(first|(simp;done)|omega|(simp;omega)))|refine Bel.call ?_ (by assumption)|(refine EX.bel ?_ (by assumption) ?_;rotate_left;(first|omega|(simp;omega)))))
   replace Pz:=Xj Pz;clear hb;by_cases hz:Go.Proofs.YtmicljipaiohkaaGreat.chk p.at_ p.len=0
   ·have DL:(Go.Proofs.YtmicljipaiohkaaGreat.chk p.at_ p.len !=0)=false:=by simp[hz]
    replace hz:=Xj hz;go_wp2_with fail
    go_roundw
    case rel=>exact⟨k+1,by omega,by go_num,by
     intro q hq;rw[List.take_succ_eq_append_getElem hlt]at hq;rcases X2.1 hq with hq|hq
     ·exact bP.out q hq
     ·rw[Yc.1 hq,hp.out];exact hz.out,Pz.out⟩
    case measure=>simp[intOf];omega
   ·have DL:(Go.Proofs.YtmicljipaiohkaaGreat.chk p.at_ p.len !=0)=true:=by simp[hz]
    go_wp2_with fail
    go_ret
    refine⟨?_,Pz.out.bel⟩;have:(l.all fun p=>p.chk==0)=false:=by
     rw[Y2];exact⟨l[k],Ym hlt,by rw[hp.out];simpa[Pfx.chk]using hz⟩
    rw[this];rfl
  ·obtain rfl:k=l.length:=by omega
   go_wp2_with fail
   go_ret
   refine⟨?_,hb.bel⟩;have:(l.all fun p=>p.chk==0)=true:=by
    rw[XE];intro p hp;rw[Xt]at bP;simpa using bP p hp
   rw[this];rfl
end
theorem ag {α:Type}{l:List α}{k:Nat}{x:α}(h:l[k]? =some x):l.take (k+1)=l.take k++[x]:=by
 rw[List.take_add_one,h];rfl
structure Lse where
 at_:Pfx
 kind:Int
 owner:Int
 till:Int
 deriving DecidableEq
structure Rul where
 min:Int
 max:Int
 usual:Int
 cool:Int
 deriving DecidableEq
structure Pol where
 id:Int
 up:Int
 root:Pfx
 rule:Rul
 leases:List Lse
 deriving DecidableEq
structure Bok where
 tick:Int
 pools:List Pol
 deriving DecidableEq
@[go_sem] def R7 (n:Int):D:= .v (.int .i64 n)
@[go_sem] def aN (p:Pfx):List D:=[.v (.int .i64 p.at_),.v (.int .i64 p.len)]
@[go_sem] def pi (r:Rul):List D:=[.v (.int .i64 r.min),.v (.int .i64 r.max),.v (.int .i64 r.usual),.v (.int .i64 r.cool)]
@[go_sem] def aV (l:Lse):List D:=[.v (.int .i64 l.at_.at_),.v (.int .i64 l.at_.len),.v (.int .i64 l.kind),.v (.int .i64 l.owner),.v (.int .i64 l.till)]
@[go_sem] def ah (p:Pol):List D:=[.v (.int .i64 p.id),.v (.int .i64 p.up),.v (.int .i64 p.root.at_),.v (.int .i64 p.root.len),.v (.int .i64 p.rule.min),.v (.int .i64 p.rule.max),.v (.int .i64 p.rule.usual),.v (.int .i64 p.rule.cool),.sl 5 (p.leases.map aV)]
@[go_sem] def aS (b:Bok):List D:=[.v (.int .i64 b.tick),.sl 9 (b.pools.map ah)]
def Ea (root:Pfx)(us:List Pfx):List D:=[.v (.int .i64 root.at_),.v (.int .i64 root.len),.sl 2 (us.map aN)]
theorem BC (p:Pfx):(aN p).length=2:=rfl
structure Fce where
 id:Int
 addrs:List Int
 deriving DecidableEq
structure Sbn where
 id:Int
 at_:Pfx
 faces:List Fce
 deriving DecidableEq
structure Rng where
 at_:Pfx
 pool:Int
 deriving DecidableEq
structure Vpc where
 id:Int
 ranges:List Rng
 subs:List Sbn
 deriving DecidableEq
@[go_sem] def cD (n:Int):List D:=[.v (.int .i64 n)]
@[go_sem] def cl (f:Fce):List D:=[.v (.int .i64 f.id),.sl 1 (f.addrs.map cD)]
@[go_sem] def aU (s:Sbn):List D:=[.v (.int .i64 s.id),.v (.int .i64 s.at_.at_),.v (.int .i64 s.at_.len),.sl 2 (s.faces.map cl)]
@[go_sem] def bv (r:Rng):List D:=[.v (.int .i64 r.at_.at_),.v (.int .i64 r.at_.len),.v (.int .i64 r.pool)]
@[go_sem] def al (v:Vpc):List D:=[.v (.int .i64 v.id),.sl 3 (v.ranges.map bv),.sl 4 (v.subs.map aU)]
theorem u9 (f:Fce):(cl f).length=2:=rfl
theorem mc (s:Sbn):(aU s).length=4:=rfl
theorem md (r:Rng):(bv r).length=3:=rfl
theorem iK (v:Vpc):(al v).length=3:=rfl
structure Lnk where
 a:Int
 b:Int
 deriving DecidableEq
structure Net where
 vpcs:List Vpc
 links:List Lnk
 deriving DecidableEq
@[go_sem] def bJ (l:Lnk):List D:=[.v (.int .i64 l.a),.v (.int .i64 l.b)]
@[go_sem] def aK (n:Net):List D:=[.sl 3 (n.vpcs.map al),.sl 2 (n.links.map bJ)]
structure Ste where
 book:Bok
 net:Net
 deriving DecidableEq
structure Cmd where
 op:Int
 a:Int
 b:Int
 c:Int
 at_:Pfx
 rule:Rul
 deriving DecidableEq
structure Ans where
 err:Int
 at_:Pfx
 n:Int
 deriving DecidableEq
def Ans.zero:Ans:=⟨0,⟨0,0⟩,0⟩
def Ans.er (e:Int):Ans:=⟨e,⟨0,0⟩,0⟩
def Ste.zero:Ste:=⟨⟨0,[]⟩,⟨[],[]⟩⟩
@[go_sem] def eW (s:Ste):List D:=[.v (.int .i64 s.book.tick),.sl 9 (s.book.pools.map ah),.sl 3 (s.net.vpcs.map al),.sl 2 (s.net.links.map bJ)]
@[go_sem] def kh (c:Cmd):List D:=[.v (.int .i64 c.op),.v (.int .i64 c.a),.v (.int .i64 c.b),.v (.int .i64 c.c),.v (.int .i64 c.at_.at_),.v (.int .i64 c.at_.len),.v (.int .i64 c.rule.min),.v (.int .i64 c.rule.max),.v (.int .i64 c.rule.usual),.v (.int .i64 c.rule.cool)]
@[go_sem] def ly (a:Ans):List D:=[.v (.int .i64 a.err),.v (.int .i64 a.at_.at_),.v (.int .i64 a.at_.len),.v (.int .i64 a.n)]
theorem mQ (h:List Chunk)(k:Nat)(ch:Chunk)(hk:k < h.length):aG (bw h k ch)=cE [(k,ch)] (aG h):=by
 funext i;rw[gF (p' hk),qt]
theorem JT {P:Program}{n m:Nat}{e:cu}{h:List Chunk}(t k g E sz l:Nat)(rows:List (List PV))(ht:fp e t= .osl k g sz 0 l)(hk:aG h k= .row E sz g rows)(bB:rows≠[])(hl:l≤rows.length){e':cu}{h':List Chunk}(he:e'=(t,.own k (g+1))::e)(hh:h'=bw h k (.row E sz (g+1) (rows.take l))):ew P n m e h e' h':=by
 intro X _ _ qj a w hr;subst he;subst hh;obtain⟨c,hc⟩:=hr;have hlt:k < h.length:=oQ (by rw[hk];simp);have QS:=hc.env t;have bc:=hc.chunk k;have ht':(bQ e h).env t= .osl k g sz 0 l:=ht;have hk':(bQ e h).heap k= .row E sz g rows:=hk;rw[ht']at QS;rw[hk']at bc;generalize hv:a.tmps.getD t undef=v at QS;cases QS with
 |osl _ _ _ _ _ b o N cap ee hn Pv L5=>
  obtain⟨cur,xs,q1,q2,q3,q4,q5,q6,q7,q8,q9,q10,q11⟩:=ed bc ee bB;have za:0 < rows.length:=Zd.2 bB;obtain rfl:o=0:=by rw[L5 (by omega)];simp
  have cX:OwnV w E sz (.slice (some ⟨b,0,none⟩) l (cap - 0)) (rows.take l).length (xs.take (l*sz)):=by
   rw[Xp,Nat.min_eq_left hl];have QM:l*sz≤rows.length*sz:=Ys sz hl;refine .row b l (cap - 0) cur _ (by omega) q1 (by omega) (by omega) q11 (by rw[Xp];omega) ?_;apply Yj;intro j;by_cases hj:j < l*sz
   ·rw[XS hj,XS hj,X6,q4 j (by omega)]
   ·rw[XT (by rw[Xp];omega),XT (by rw[Xp];omega)]
  obtain⟨c',r1,r2⟩:=hc.set_row (w':=w) hk' ee ⟨rfl,rfl,rfl,XB _,fun _ _ _=>rfl⟩ cX (.inl (by rw[dh (by omega),dh (by omega)])) (by rw[iI q5];exact⟨by rw[Xp,Xp,q2.1],fun j d x hj hx=>by
   have Fe:j < l*sz:=by
    have:=(Xn.1 hj).1;rw[Xp]at this;omega
   rw[XS Fe]at hj hx;exact q2.2 j d x hj hx⟩)
   (fun r hr=>q5 r (Yg hr)) (fun r hr=>q6 r (Yg hr))
  have mH:=mQ h k (.row E sz (g+1) (rows.take l)) hlt;refine⟨c',r1.size,r1.defers,r1.ext,r1.inv,r1.fresh,?_,?_,?_,fun t'=>?_,?_,r1.lent⟩
  ·intro b;have:=r1.mu b;simp only[bQ,mH]at this ⊢;exact this
  ·intro k b;have:=r1.new k b;simp only[bQ,mH]at this ⊢;exact this
  ·intro k k' b;have:=r1.apart k k' b;simp only[bQ,mH]at this ⊢;exact this
  ·simp only[bQ,fp];by_cases h1:t'=t
   ·subst h1;rw[if_pos rfl,hv];exact r2
   ·rw[if_neg h1];exact r1.env t'
  ·intro k;have:=r1.chunk k;simp only[bQ,mH]at this ⊢;exact this
theorem Hf {P:Program}{n m:Nat}{e:cu}{h:List Chunk}(t k g E sz:Nat)(rows:List (List PV))(ht:fp e t= .own k g)(hk:aG h k= .row E sz g rows){e':cu}{h':List Chunk}(he:e'=(t,.own k (g+1))::e)(hh:h'=bw h k (.row E sz (g+1) rows)):ew P n m e h e' h':=by
 intro X _ _ qj a w hr;subst he;subst hh;obtain⟨c,hc⟩:=hr;have hlt:k < h.length:=oQ (by rw[hk];simp);have QS:=hc.env t;have bc:=hc.chunk k;have ht':(bQ e h).env t= .own k g:=ht;have hk':(bQ e h).heap k= .row E sz g rows:=hk;rw[ht']at QS;rw[hk']at bc;generalize hv:a.tmps.getD t undef=v at QS;cases QS with
 |own _ _ _ ee h1=>
  cases bc with
  |row _ _ _ _ u xs hu cX hr cP h1' hg=>
   rw[ee]at hu;cases hu;obtain⟨c',r1,r2⟩:=hc.set_row (w':=w) hk' ee ⟨rfl,rfl,rfl,XB _,fun _ _ _=>rfl⟩ cX (.inl rfl) hr cP h1';have mH:=mQ h k (.row E sz (g+1) rows) hlt;refine⟨c',r1.size,r1.defers,r1.ext,r1.inv,r1.fresh,?_,?_,?_,fun t'=>?_,?_,r1.lent⟩
   ·intro b;have:=r1.mu b;simp only[bQ,mH]at this ⊢;exact this
   ·intro k b;have:=r1.new k b;simp only[bQ,mH]at this ⊢;exact this
   ·intro k k' b;have:=r1.apart k k' b;simp only[bQ,mH]at this ⊢;exact this
   ·simp only[bQ,fp];by_cases h1:t'=t
    ·subst h1;rw[if_pos rfl,hv];exact r2
    ·rw[if_neg h1];exact r1.env t'
   ·intro k;have:=r1.chunk k;simp only[bQ,mH]at this ⊢;exact this
theorem BD (p q:PV)(e:cu)(t:Nat):fp ((0,q)::[(0,p)]) t=fp [(0,q)] t:=by
 simp only[fp];by_cases h0:t=0
 ·rw[if_pos h0,if_pos h0]
 ·rw[if_neg h0,if_neg h0,if_neg h0]
theorem fT {P:Program}{m:Nat}{h:List Chunk}(k g E sz:Nat)(rows:List (List PV))(hk:aG h k= .row E sz g rows){e':cu}{h':List Chunk}(hw:ew P 1 m [(0,.own k (g+1))] (bw h k (.row E sz (g+1) rows)) e' h'):ew P 1 m [(0,.own k g)] h e' h':=
 ((Hf 0 k g E sz rows rfl hk rfl rfl).trans (sf fun t=> .inr (BD _ _ [] t).symm)).trans hw
theorem iL {P:Program}{m:Nat}{h:List Chunk}(li:m≤h.length)(E sz:Nat){e':cu}{h':List Chunk}(hw:ew P 1 m [(0,.own h.length 0)] (h++[.row E sz 0 []]) e' h'):ew P 1 m [(0,.d (.v (.slice none 0 0)))] h e' h':=
 ((cS li 0 E sz rfl).trans (sf fun t=> .inr (BD _ _ [] t).symm)).trans hw
theorem aL {P:Program}{n m:Nat}{e:cu}{h:List Chunk}(k:Nat)(hk:k < h.length):ew P n m e h e (bw h k .gone):=by
 intro X _ _ qj a w hr;obtain⟨c,hc⟩:=hr;have hf:=hc.freeze [k];have mH:=mQ h k .gone hk;refine⟨_,hf.size,hf.defers,hf.ext,hf.inv,hf.fresh,?_,?_,?_,hf.env,?_,hf.lent⟩
 ·intro b;have:=hf.mu b;simp only[bQ,mH,Xm,Xu]at this ⊢;exact this
 ·intro k b;have:=hf.new k b;simp only[bQ,mH,Xm,Xu]at this ⊢;exact this
 ·intro k k' b;have:=hf.apart k k' b;simp only[bQ,mH,Xm,Xu]at this ⊢;exact this
 ·intro k;have:=hf.chunk k;simp only[bQ,mH,Xm,Xu]at this ⊢;exact this
theorem qI {P:Program}{f sz:Nat}{pl ql:List PV}{h0 h1:List Chunk}{r:PV}(h:∀(ao:Option Addr) (cap:Nat),MSpec P f (pl++ .d (.v (.slice ao 0 cap))::ql) h0 r h1):MSpec P f (pl++ .d (.sl sz [])::ql) h0 r h1:=by
 have TH:=h none 0;have tP:∀(d d':D) (n:Nat) (pl:List PV),an n (pl++ .d d::ql)=an n (pl++ .d d'::ql):=by
  intro d d' n pl;induction pl with
  |nil=>simp only[Ya,an,aq]
  |cons a pl ih=>simp only[X8,an,ih]
 refine⟨TH.fn,TH.le,(tP _ _ _ pl).trans TH.ba,TH.bh,fun X hP hn hm' w c vs hr lq=>?_⟩;have bT:=lq.1;obtain⟨v,hv⟩:∃v,vs[pl.length]? =some v:=⟨_,Xk (by rw[←bT];simp)⟩;have hd:=lq.2 pl.length (.d (.sl sz [])) v (by simp) hv;have hd:=co hd;have key:∀ao cap,v= .slice ao 0 cap→bG c w (pl++ .d (.v (.slice ao 0 cap))::ql) vs:=by
  rintro ao cap rfl;refine⟨by simpa using bT,fun j d x hj hx=>?_⟩;rcases Zb j pl.length with hlt|rfl|hgt
  ·exact lq.2 j d x (by rw[X4 hlt]at hj ⊢;exact hj) hx
  ·rw[hv]at hx;cases hx;simp at hj;subst hj;exact .d _ _ (.v _)
  ·refine lq.2 j d x ?_ hx;rw[XK (by omega)]at hj ⊢;obtain⟨i,hi⟩:∃i,j - pl.length=i+1:=⟨j - pl.length - 1,by omega⟩;rw[hi]at hj ⊢;exact hj
 cases hd with
 |nil _ ao cap hm=>exact(h ao cap).run X hP hn hm' w c vs hr (key _ _ rfl)
 |sl _ _ b off cap f hM hb hc hm=>
  exact(h _ cap).run X hP hn hm' w c vs hr (key _ _ rfl)
theorem qJ {P:Program}{m:Nat}{h:List Chunk}(k g E sz l:Nat)(rows:List (List PV))(hk:aG h k= .row E sz g rows)(bB:rows≠[])(hl:l≤rows.length){e':cu}{h':List Chunk}(hw:ew P 1 m [(0,.own k (g+1))] (bw h k (.row E sz (g+1) (rows.take l))) e' h'):ew P 1 m [(0,.osl k g sz 0 l)] h e' h':=
 ((JT 0 k g E sz l rows rfl hk bB hl rfl rfl).trans (sf fun t=>by
  simp only[fp];by_cases h0:t=0
  ·rw[if_pos h0,if_pos h0];exact .inr rfl
  ·rw[if_neg h0,if_neg h0];exact .inl rfl)).trans hw
structure Tg.{u}{α:Sort u}(a:α):Type where
 mk::
def pz (p:PV)(A B:Prop)(_:Tg A)(_:Tg B):Prop:=match p with| .d (.v (.bool t))=>(t=true→A)∧(t=false→B)|_=>False
def gK (g:Option Bool)(A B:Prop)(_:Tg A)(_:Tg B):Prop:=match g with|some g=>(g=true→A)∧(g=false→B)|none=>False
def JU (l:List Oper)(_:Tg l)(sm:List (List Nat × List Nat)):Prop:=(nO ⟨l⟩ sm.reverse&&nQ ⟨l⟩)=true
def Nv (draw:Bool)(l:List Oper)(_:Tg l)(sm:List (List Nat × List Nat))(A:Prop)(_:Tg A):Prop:=match draw with|true=>JU l ⟨⟩ sm∧A|false=>A
def zL (ds:List (Option Nat))(e:cu)(g:Option (Nat × Bool)):Option Bool:=
 match g with
 |none=>some true
 |some (j,want)=>match ds[j]? with|some dj=>(zH dj e).map (·==some want)|none=>none
abbrev KT:=Exit→cu→List Chunk→Prop
def nK (K:KT):cu→List Chunk→Prop:=K .normal
def sg (C:cu→List Chunk→Prop)(K:KT):KT
 | .normal,e,h=>C e h
 |x,e,h=>K x e h
def tr (K:KT)(_:Tg K)(x:Exit)(e:cu)(h:List Chunk):Prop:=K x e h
def MH (P:Program)(r:SR)(dst:Option Nat)(e:cu)(h:List Chunk)(sm:List (List Nat × List Nat))(R:cu→List Chunk→List (List Nat × List Nat)→Prop)(_:Tg R):Prop:=zI P r dst e h sm R
section
variable (P:Program)(n m:Nat)(T:Nat→Option TI)(Q:Nat→Option Nat)
def rO (draw:Bool)(ops:List Oper)(K:KT):(l:List Oper)→Tg (ops,K,l)→List (Option Nat)→cu→List Chunk→List (List Nat × List Nat)→Prop
 |[],_,_,e,h,sm=>Nv draw ops ⟨⟩ sm (tr K ⟨⟩ .normal e h) ⟨⟩
 |o::l,_,ds,e,h,sm=>gK (zL ds e o.guard) (MH P (MG T Q e h o) o.dst e h sm (fun e' h' sm'=>rO draw ops K l ⟨⟩ (ds++[o.dst]) e' h' sm') ⟨⟩) (rO draw ops K l ⟨⟩ (ds++[o.dst]) (gp e o.dst (.d (.v undef))) h (([],[])::sm)) ⟨⟩ ⟨⟩
def lz:Code→Bool
 | .seq a b=>lz a&&lz b
 | .block _ c=>lz c
 | .cond _ a b=>lz a&&lz b
 | .region _ ops _=>ops.toList.all (JL n)
 | .loop c=>lz c
 | .rangeFunc _ _ a b=>lz a&&lz b
 |_=>true
def BE (c:Code)(K:KT)(_:Tg (c,K))(e:cu)(h:List Chunk):Prop:=lz n c=true→tn P n m (.loop c) K e h
def R8 (c:Code)(K:KT)(_:Tg (c,K))(e:cu)(h:List Chunk):Prop:=tn P n m c K e h
def sC:(c:Code)→(K:KT)→Tg (c,K)→cu→List Chunk→Prop
 | .seq a b,K,_,e,h=>sC a (u6 (sC b K ⟨⟩) K) ⟨⟩ e h
 | .block id c,K,_,e,h=>sC c (xt id (nK K) K) ⟨⟩ e h
 | .skip,K,_,e,h=>tr K ⟨⟩ .normal e h
 | .exit i,K,_,e,h=>tr K ⟨⟩ (.exit i) e h
 | .ret,K,_,e,h=>tr K ⟨⟩ .ret e h
 | .label _,K,_,e,h=>tr K ⟨⟩ .normal e h
 | .cond c a b,K,_,e,h=>pz (dI e c) (sC a K ⟨⟩ e h) (sC b K ⟨⟩ e h) ⟨⟩ ⟨⟩
 | .region _ ⟨ops⟩ draw,K,_,e,h=>m≤h.length∧rO P T Q draw ops K ops ⟨⟩ [] e h []
 | .loop c,K,_,e,h=>BE P n m c K ⟨⟩ e h
 |c,K,_,e,h=>R8 P n m c K ⟨⟩ e h
end
theorem Hg {ds:List (Option Nat)}{full:List (Option Nat)}(hp:∃x,full=ds++x){e:cu}{o:Oper}{g:Bool}(h:zL ds e o.guard=some g):sb full e o=some g:=by
 obtain⟨x,rfl⟩:=hp;unfold zL at h;unfold sb;cases hg:o.guard with
 |none=>rw[hg]at h;exact h
 |some jw=>
  obtain⟨j,want⟩:=jw;rw[hg]at h;simp only at h ⊢;cases hd:ds[j]? with
  |none=>rw[hd]at h;cases h
  |some dj=>
   rw[hd]at h;have hj:=(Xn.1 hd).1;rw[XJ,X4 hj,hd];exact h
theorem me {P:Program}{n:Nat}{T:Nat→Option TI}{Q:Nat→Option Nat}{draw:Bool}{ops:List Oper}{K:KT}:∀(l:List Oper) (pre:List Oper) (e:cu) (h:List Chunk) (sm:List (List Nat × List Nat)),ops=pre++l→l.all (JL n)=true→
 rO P T Q draw ops K l ⟨⟩ (pre.map (·.dst)) e h sm→t5 P n T Q draw ⟨ops⟩ (ops.map (·.dst)) l e h sm (K .normal)
 |[],pre,e,h,sm,_,_,hs=>by
  unfold rO Nv at hs;unfold t5;cases draw with
  |true=>exact⟨fun _=>hs.1,hs.2⟩
  |false=>exact⟨(fun h=>(by cases h)),hs⟩
 |o::l,pre,e,h,sm,lQ,hb,hs=>by
  simp only[List.all_cons,Xy]at hb;have L9:ops=(pre++[o])++l:=by rw[lQ];simp
  have ft:pre.map (·.dst)++[o.dst]=(pre++[o]).map (·.dst):=by simp
  refine Hc hb.1 fun R hR=>?_;unfold rO gK at hs;unfold PZ;rw[ft]at hs;split at hs
  ·rename_i g hg;rw[Hg (full:=ops.map (·.dst)) ⟨(o::l).map (·.dst),by rw[lQ];simp⟩ hg];cases g with
   |true=>
    have hs:=hs.1 rfl;show zI _ _ _ _ _ _ _;unfold MH zI at hs;unfold zI;split at hs
    ·exact hs
    ·obtain⟨a,b,c⟩:=hs;exact⟨a,b,hR _ _ _ (me l _ _ _ _ L9 hb.2 c)⟩
    ·rcases hs with⟨ds,r,a,b,c,d⟩|⟨ls,args,h0,r,h1,a,b,c,d,e1,f,g⟩|⟨ls,args,h0,r,a,b,c,d,e1,f,g⟩
     ·exact .inl ⟨ds,r,a,b,c,hR _ _ _ (me l _ _ _ _ L9 hb.2 d)⟩
     ·exact .inr (.inl ⟨ls,args,h0,r,h1,a,b,c,d,e1,f,hR _ _ _ (me l _ _ _ _ L9 hb.2 g)⟩)
     ·exact .inr (.inr ⟨ls,args,h0,r,a,b,c,d,e1,f,hR _ _ _ (me l _ _ _ _ L9 hb.2 g)⟩)
   |false=>exact hR _ _ _ (me l _ _ _ _ L9 hb.2 (hs.2 rfl))
  ·exact hs.elim
theorem iM {P:Program}{n m:Nat}{T:Nat→Option TI}{Q:Nat→Option Nat}(cp:TabOK P T Q)(mI:P.follows .mixedOrders=true):∀(c:Code) (K:KT) (e:cu) (h:List Chunk),lz n c=true→sC P n m T Q c K ⟨⟩ e h→tn P n m c K e h
 | .seq a b,K,e,h,hb,hs=>by
  simp only[lz,Xy]at hb;refine Fz fun C hC=>?_;intro X hX hn qj ac w hr;refine wp_mono (iM cp mI a _ e h hb.1 hs X hX hn qj ac w hr) fun ex a' w' ⟨e',h',hk,hr'⟩=>⟨e',h',?_,hr'⟩;cases ex with
  |normal=>exact hC _ _ (iM cp mI b _ _ _ hb.2 hk)
  |_=>exact hk
 | .block id c,K,e,h,hb,hs=>by
  refine Hb fun C hC=>?_;intro X hX hn qj ac w hr;refine wp_mono (iM cp mI c _ e h hb hs X hX hn qj ac w hr) fun ex a' w' ⟨e',h',hk,hr'⟩=>⟨e',h',?_,hr'⟩;cases ex with
  |normal=>exact hC _ _ hk
  |exit i=>
   simp only[xt]at hk ⊢;split
   ·rename_i hi;rw[if_pos hi]at hk;exact hC _ _ hk
   ·rename_i hi;rw[if_neg hi]at hk;exact hk
  |_=>exact hk
 | .skip,K,e,h,_,hs=>JQ hs
 | .exit i,K,e,h,_,hs=>JR hs
 | .ret,K,e,h,_,hs=>Nt hs
 | .label _,K,e,h,_,hs=>He hs
 | .cond c a b,K,e,h,hb,hs=>by
  simp only[lz,Xy]at hb;simp only[sC,pz]at hs;split at hs
  ·rename_i t ht;exact JP ht (fun h0=>iM cp mI a _ _ _ hb.1 (hs.1 h0)) (fun h0=>iM cp mI b _ _ _ hb.2 (hs.2 h0))
  ·exact hs.elim
 | .region id ⟨ops⟩ draw,K,e,h,hb,hs=>by
  intro X hX hn qj a w hr;subst hX;subst hn;subst qj;exact zJ cp mI (K:=K .normal) hs.1 (me ops [] _ _ _ rfl hb hs.2) hr fun e' h' a' w' hk hr'=>⟨e',h',hk,hr'⟩
 | .loop c,K,e,h,hb,hs=>hs hb
 | .rangeFunc _ _ _ _,K,e,h,_,hs=>hs
 | .scope _,K,e,h,_,hs=>hs
 | .goto _,K,e,h,_,hs=>hs
 | .refuse _,K,e,h,_,hs=>hs
section
variable {P:Program}{n m:Nat}{T:Nat→Option TI}{Q:Nat→Option Nat}
theorem bL (cp:TabOK P T Q)(mI:P.follows .mixedOrders=true){c:Code}{K:Exit→cu→List Chunk→Prop}{e:cu}{h:List Chunk}(I:Nat→cu→List Chunk→Prop)(mm:Nat)(e1:cu)(h1:List Chunk)(h0:I mm e1 h1)(hw:ew P n m e h e1 h1)
 (hr:∀k e h,I k e h→∀C:cu→List Chunk→Prop,(∀k' e1 h1 e h,k' < k→I k' e1 h1→ew P n m e h e1 h1→C e h)→sC P n m T Q c (sg C K) ⟨⟩ e h):BE P n m c K ⟨⟩ e h:=
 fun hb=>Bz I mm e1 h1 h0 hw fun k e h hI C hC=>(show sg C K=u6 C K from funext fun x=>by cases x<;>rfl) ▸ iM cp mI c _ _ _ hb (hr k e h hI C hC)
theorem qK (cp:TabOK P T Q)(mI:P.follows .mixedOrders=true){c:Code}{K:Exit→cu→List Chunk→Prop}{e:cu}{h:List Chunk}(N:Nat)(I:Nat→Prop)(E:Nat→cu)(H:Nat→List Chunk)(h0:I 0)(hw:ew P n m e h (E 0) (H 0))
 (hr:∀k,k < N→I k→∀C:cu→List Chunk→Prop,(∀e h,I (k+1)→ew P n m e h (E (k+1)) (H (k+1))→C e h)→sC P n m T Q c (sg C K) ⟨⟩ (E k) (H k))
 (he:I N→∀C:cu→List Chunk→Prop,sC P n m T Q c (sg C K) ⟨⟩ (E N) (H N)):BE P n m c K ⟨⟩ e h:=by
 refine bL cp mI (fun j e h=>∃k,k≤N∧j=N - k∧I k∧e=E k∧h=H k) N (E 0) (H 0) ⟨0,XD _,rfl,h0,rfl,rfl⟩ hw ?_;rintro j e h ⟨k,hk,rfl,hI,rfl,rfl⟩ C hC;rcases XP k N with hlt|hge
 ·exact hr k hlt hI C fun e h hI' hw'=>hC _ _ _ e h (by omega) ⟨k+1,hlt,rfl,hI',rfl,rfl⟩ hw'
 ·obtain rfl:k=N:=by omega
  exact he hI C
theorem bg (cp:TabOK P T Q)(mI:P.follows .mixedOrders=true){c:Code}{K:Exit→cu→List Chunk→Prop}{e:cu}{h:List Chunk}{α:Type}(l:List α)(I:Nat→Prop)(E:Nat→cu)(H:Nat→List Chunk)(h0:I 0)(hw:ew P n m e h (E 0) (H 0))
 (hr:∀k x,l[k]? =some x→k < l.length→I k→∀C:cu→List Chunk→Prop,(∀e h,I (k+1)→ew P n m e h (E (k+1)) (H (k+1))→C e h)→sC P n m T Q c (sg C K) ⟨⟩ (E k) (H k))
 (he:I l.length→∀C:cu→List Chunk→Prop,sC P n m T Q c (sg C K) ⟨⟩ (E l.length) (H l.length)):BE P n m c K ⟨⟩ e h:=
 qK cp mI l.length I E H h0 hw (fun k hk hI=>hr k l[k] (Xk hk) hk hI) he
end
section
variable {P:Program}{n m:Nat}{T:Nat→Option TI}{Q:Nat→Option Nat}{A B:Prop}{s:Tg A}{t:Tg B}
theorem T4:gK (some true) A B s t=A:=by simp[gK]
theorem T5:gK (some false) A B s t=B:=by simp[gK]
theorem cm {b:Bool}(h1:b=true→A)(h2:b=false→B):gK (some b) A B s t:=⟨h1,h2⟩
theorem Nw:pz (.d (.v (.bool true))) A B s t=A:=by simp[pz]
theorem Nx:pz (.d (.v (.bool false))) A B s t=B:=by simp[pz]
theorem aA {b:Bool}(h1:b=true→A)(h2:b=false→B):pz (.d (.v (.bool b))) A B s t:=⟨h1,h2⟩
theorem R9 (b:Bool):(some b==some true)=b:=by cases b<;>rfl
theorem Sa (b:Bool):(some b==some false)=!b:=by cases b<;>rfl
theorem T6 {b:Bool}:gK (some (!b)) A B s t=gK (some b) B A t s:=by
 cases b<;>simp[gK]
theorem Ny {b:Bool}:pz (.d (.v (.bool (!b)))) A B s t=pz (.d (.v (.bool b))) B A t s:=by
 cases b<;>simp[pz]
theorem P2 (a b:PV):qC (.d (.v (.bool true))) a b= .res a [] [] True:=by
 simp only[qC];split<;>rfl
theorem P3 (a b:PV):qC (.d (.v (.bool false))) a b= .res b [] [] True:=by
 simp only[qC];split<;>rfl
theorem P4 (t p q:Bool):qC (.d (.v (.bool t))) (.d (.v (.bool p))) (.d (.v (.bool q)))= .res (.d (.v (.bool (bif t then p else q)))) [] [] True:=rfl
theorem P5 (l:List Oper)(u:Tg l)(sm:List (List Nat × List Nat)):Nv false l u sm A s=A:=rfl
theorem P6 (l:List Oper)(u:Tg l)(sm:List (List Nat × List Nat)):Nv true l u sm A s=(JU l u sm∧A):=rfl
theorem be {l:List Oper}{u:Tg l}{sm:List (List Nat × List Nat)}(h:(nO ⟨l⟩ sm.reverse&&nQ ⟨l⟩)=true):JU l u sm:=h
theorem Nz {p:PV}{eff:List (Nat × Chunk)}{touch:List Nat}{side:Prop}{dst:Option Nat}{e:cu}{h:List Chunk}{sm:List (List Nat × List Nat)}{R:cu→List Chunk→List (List Nat × List Nat)→Prop}{u:Tg R}:
 MH P (.res p eff touch side) dst e h sm R u=(side∧(eff.all fun kc=>decide (kc.1≤h.length))=true∧R (gp e dst p) (pL eff h) ((eff.map (·.1),touch)::sm)):=rfl
theorem Sb {dst:Option Nat}{e:cu}{h:List Chunk}{sm:List (List Nat × List Nat)}{R:cu→List Chunk→List (List Nat × List Nat)→Prop}{u:Tg R}{g:Nat}{ps:List PV}{ds:List D}{r:D}{tl:List Nat}(hv:R0 (aG h) ps=some ds)(hp:af P g ds r)(ht:PW (aG h) ps=tl)(hf:tl=[]∨r.flat=true)(hR:R (gp e dst (.d r)) h (([],tl)::sm)):MH P (.call g ps) dst e h sm R u:=by
 subst ht;exact P0 hv hp hf hR
def JV (P:Program)(g:Nat)(ds:List D)(tl:List Nat)(dst:Option Nat)(e:cu)(h:List Chunk)(sm:List (List Nat × List Nat))(R:cu→List Chunk→List (List Nat × List Nat)→Prop)(_:Tg R):Prop:=
 ∃r,af P g ds r∧(tl=[]∨r.flat=true)∧R (gp e dst (.d r)) h (([],tl)::sm)
def JW (P:Program)(g:Nat)(ds:Option (List D))(tl:List Nat)(dst:Option Nat)(e:cu)(h:List Chunk)(sm:List (List Nat × List Nat))(R:cu→List Chunk→List (List Nat × List Nat)→Prop)(u:Tg R):Prop:=
 match ds with
 |some ds=>JV P g ds tl dst e h sm R u
 |none=>False
theorem bf {dst:Option Nat}{e:cu}{h:List Chunk}{sm:List (List Nat × List Nat)}{R:cu→List Chunk→List (List Nat × List Nat)→Prop}{u:Tg R}{g:Nat}{ps:List PV}(hv:JW P g (R0 (aG h) ps) (PW (aG h) ps) dst e h sm R u):MH P (.call g ps) dst e h sm R u:=by
 unfold JW at hv;split at hv
 ·rename_i ds hd;obtain⟨r,hp,hf,hR⟩:=hv;exact Sb hd hp rfl hf hR
 ·exact hv.elim
theorem aB {g:Nat}{ds ds':List D}{tl:List Nat}{dst:Option Nat}{e:cu}{h:List Chunk}{sm:List (List Nat × List Nat)}{R:cu→List Chunk→List (List Nat × List Nat)→Prop}{u:Tg R}{r:D}(hp:af P g ds' r)(hd:pO ds ds')(hf:tl=[]∨r.flat=true)(hR:R (gp e dst (.d r)) h (([],tl)::sm)):JV P g ds tl dst e h sm R u:=⟨r,hp.args hd,hf,hR⟩
theorem aC {g:Nat}{ds:List D}{tl:List Nat}{dst:Option Nat}{e:cu}{h:List Chunk}{sm:List (List Nat × List Nat)}{R:cu→List Chunk→List (List Nat × List Nat)→Prop}{u:Tg R}{r:D}(hp:af P g ds r)(hf:tl=[]∨r.flat=true)(hR:R (gp e dst (.d r)) h (([],tl)::sm)):JV P g ds tl dst e h sm R u:=⟨r,hp,hf,hR⟩
theorem ym:∀l:List D,pO l l
 |[]=>trivial
 |d::l=>⟨ai.refl d,ym l⟩
theorem aX (ls:List Nat){dst:Option Nat}{e:cu}{h:List Chunk}{sm:List (List Nat × List Nat)}{R:cu→List Chunk→List (List Nat × List Nat)→Prop}{u:Tg R}{g:Nat}{ps args:List PV}{h0 h1:List Chunk}{r:PV}(hM:MSpec P g args h0 r h1)(lq:ps=iJ (eC ls h.length) args)(hl:ls.length=h0.length)(lf:ls.Nodup)(hlt:∀k∈ls,k < h.length)(iX:ax (aG h) (eC ls h.length) 0 h0)
 (hR:R (gp e dst (ren (eC ls h.length) r)) (ir (eC ls h.length) 0 h1 h) ((pM ls h.length h1.length,pM ls h.length h1.length)::sm)):MH P (.call g ps) dst e h sm R u:=P1 ls hM lq hl lf hlt iX hR
theorem Sc (ls:List Nat){dst:Option Nat}{e:cu}{h:List Chunk}{sm:List (List Nat × List Nat)}{R:cu→List Chunk→List (List Nat × List Nat)→Prop}{u:Tg R}{g:Nat}{ps args:List PV}{h0:List Chunk}{r:PV}(hM:MSpec P g args h0 r h0)(lq:ps=iJ (eC ls h.length) args)(hl:ls.length=h0.length)(lf:ls.Nodup)(hlt:∀k∈ls,k < h.length)(iX:ax (aG h) (eC ls h.length) 0 h0)
 (hR:R (gp e dst (ren (eC ls h.length) r)) h (([],pM ls h.length h0.length)::sm)):MH P (.call g ps) dst e h sm R u:= .inr (.inr ⟨ls,args,h0,r,hM,lq,hl,lf,hlt,iX,hR⟩)
variable {K K1:KT}{C:cu→List Chunk→Prop}{e:cu}{h:List Chunk}{b:Code}{i id:Nat}
theorem Hh {u:Tg (u6 (sC P n m T Q b K ⟨⟩) K1)}:tr (u6 (sC P n m T Q b K ⟨⟩) K1) u .normal e h=sC P n m T Q b K ⟨⟩ e h:=rfl
theorem Hi {u:Tg (u6 C K1)}:tr (u6 C K1) u (.exit i) e h=tr K1 ⟨⟩ (.exit i) e h:=rfl
theorem Hj {u:Tg (u6 C K1)}:tr (u6 C K1) u .ret e h=tr K1 ⟨⟩ .ret e h:=rfl
theorem Hk {u:Tg (sg C K1)}:tr (sg C K1) u .normal e h=C e h:=rfl
theorem Hl {u:Tg (sg C K1)}:tr (sg C K1) u (.exit i) e h=tr K1 ⟨⟩ (.exit i) e h:=rfl
theorem Hm {u:Tg (sg C K1)}:tr (sg C K1) u .ret e h=tr K1 ⟨⟩ .ret e h:=rfl
theorem Hn {u:Tg (xt id (nK K) K1)}:tr (xt id (nK K) K1) u .normal e h=tr K ⟨⟩ .normal e h:=rfl
theorem Ho {u:Tg (xt id (nK K) K1)}:tr (xt id (nK K) K1) u .ret e h=tr K1 ⟨⟩ .ret e h:=rfl
theorem Hp {u:Tg (xt id (nK K) K1)}:tr (xt id (nK K) K1) u (.exit i) e h=if i=id then tr K ⟨⟩ .normal e h else tr K1 ⟨⟩ (.exit i) e h:=rfl
def JX (T:Nat→Option TI)(rs:List ResultVar)(r:D)(e:cu)(h:List Chunk):Prop:=
 match py T e h rs with
 |some ps=>match vw (aG h) (xp ps)with
  |some d=>ai d r
  |none=>False
 |none=>False
theorem FC {rs:List ResultVar}{r:D}{x:Exit}(hx:x= .normal∨x= .ret):qH T rs r x e h=JX T rs r e h:=by
 apply propext;unfold qH JX;constructor
 ·rintro⟨-,ps,d,h1,h2,h3⟩;rw[h1];simp only[h2];exact h3
 ·intro h1;refine⟨hx,?_⟩;split at h1
  ·rename_i ps hp;split at h1
   ·rename_i d hd;exact⟨ps,d,hp,hd,h1⟩
   ·exact h1.elim
  ·exact h1.elim
def JY (P:Program)(m:Nat)(T:Nat→Option TI)(rs:List ResultVar)(r:PV)(h1:List Chunk)(e:cu)(h:List Chunk):Prop:=
 match py T e h rs with
 |some ps=>ew P 1 m [(0,xp ps)] h [(0,r)] h1
 |none=>False
theorem FD {rs:List ResultVar}{r:PV}{h1:List Chunk}{x:Exit}(hx:x= .normal∨x= .ret):xq P m T rs r h1 x e h=JY P m T rs r h1 e h:=by
 apply propext;unfold xq JY;constructor
 ·rintro⟨-,ps,h2,h3⟩;rw[h2];exact h3
 ·intro h2;refine⟨hx,?_⟩;split at h2
  ·rename_i ps hp;exact⟨ps,hp,h2⟩
  ·exact h2.elim
theorem BF {rs:List ResultVar}{r:D}{u:Tg (qH T rs r)}:tr (qH T rs r) u .normal e h=JX T rs r e h:=FC (.inl rfl)
theorem BG {rs:List ResultVar}{r:D}{u:Tg (qH T rs r)}:tr (qH T rs r) u .ret e h=JX T rs r e h:=FC (.inr rfl)
theorem Eb {rs:List ResultVar}{r:PV}{h1:List Chunk}{u:Tg (xq P m T rs r h1)}:tr (xq P m T rs r h1) u .normal e h=JY P m T rs r h1 e h:=FD (.inl rfl)
theorem Ec {rs:List ResultVar}{r:PV}{h1:List Chunk}{u:Tg (xq P m T rs r h1)}:tr (xq P m T rs r h1) u .ret e h=JY P m T rs r h1 e h:=FD (.inr rfl)
end
def Ed (fn:Func)(nt:Nat)(c:Code)(k:Nat):Bool:=!(fn.name== "runtime.NumGoroutine")&&lz nt c&&decide (k≤nt)
theorem T7 {P:Program}{f:Nat}{fn:Func}{c:Code}{T:Nat→Option TI}{Q:Nat→Option Nat}{nt:Nat}{rs:Array ResultVar}(cp:TabOK P T Q)(mI:P.follows .mixedOrders=true)(hf:P.funcs[f]? =some fn)(hb:fn.body=some c)(hn:fn.ntmps=nt)(hr:fn.results=rs){ds:List D}{r:D}(hc:Ed fn nt c ds.length=true)
 (hp:sC P nt 0 T Q c (qH T rs.toList r) ⟨⟩ (pN (ds.map .d) 0) []):af P f ds r:=by
 subst hn;subst hr;simp only[Ed,Xy,Zz,decide_eq_true_eq]at hc;exact Bu cp hf hb (cW hf hc.1.1 hb) hc.2 (iM cp mI _ _ _ _ hc.1.2 hp)
theorem iN {P:Program}{f:Nat}{fn:Func}{c:Code}{T:Nat→Option TI}{Q:Nat→Option Nat}{nt:Nat}{rs:Array ResultVar}(cp:TabOK P T Q)(mI:P.follows .mixedOrders=true)(hf:P.funcs[f]? =some fn)(hb:fn.body=some c)(hn:fn.ntmps=nt)(hr:fn.results=rs){args:List PV}{h0 h1:List Chunk}{r:PV}(hc:Ed fn nt c args.length=true)
 (hle:h0.length≤h1.length) (Ax:an h0.length args=true) (hbh:aH h0.length h0=true)
 (hp:sC P nt h0.length T Q c (xq P h0.length T rs.toList r h1) ⟨⟩ (pN args 0) h0):MSpec P f args h0 r h1:=by
 subst hn;subst hr;simp only[Ed,Xy,Zz,decide_eq_true_eq]at hc;exact Bv cp hf hb (cW hf hc.1.1 hb) hc.2 hle Ax hbh (iM cp mI _ _ _ _ hc.1.2 hp)
theorem JZ {α:Type}(l:List α):ay l 0 []=l:=by simp[ay]
theorem J0 {α:Type}(a x:α)(l xs:List α):ay (a::l) 0 (x::xs)=x::ay l 0 xs:=by simp[ay]
theorem NA {α:Type}(a:α)(n:Nat)(l xs:List α):ay (a::l) (n+1) xs=a::ay l n xs:=by simp only[ay,ZC,X8,Nat.add_right_comm n 1,List.drop_succ_cons]
attribute [go_sem] pN
attribute [go_sem] T4 T5 Nw Nx P5 P6 Nz Hh Hi Hj Hk Hl Hm Hn Ho Hp BF BG Eb Ec JX JY py Fx xp vw bp cJ da ui eG mM P2 P3 P4 JW R0 PW tc jh cT xj zA nU Jq R9 Sa T6 Ny zL sC rO
attribute [go_sem] R1 R2 R3 R4 R5 R6 MG dI fp gp pL bw aG RZ Jw Jz Jy zp uO Bk uP uQ nX yf r6 uR uS JA Bm Bn JB JC uU uV Fs Ft uT nY qD uW uX r7 D1 Bo xr JO xY cR PV.one D.one Value.oneCell' uF pt pu JZ J0 NA zH rU Jh RC Bl Nb kf ir eC ren iJ jE lj pM gG aF aI D4 uN Jr IntKind.bits
attribute [go_sem] cond_true cond_false Xm Xu XA XZ List.all_cons List.all_nil ZC Z4 List.drop_succ_cons List.drop_zero List.take_nil List.drop_nil X8 Ya Yv X3 List.reverse_cons List.reverse_nil List.getElem?_cons_zero Yw List.getElem?_nil List.getElem?_toArray Xz Ye Zg YI Option.getD_none Y6 Option.bind_none XG XW decide_true decide_false YA Yr Bool.and_false Bool.false_and Yp Z0 Bool.not_false Bool.true_eq_false YB beq_self_eq_true ne_eq not_true_eq_false not_false_eq_true and_true true_and and_self or_self or_false false_or or_true true_or eq_self forall_const false_implies implies_true Int.toNat_natCast Int.natCast_nonneg Nat.lt_irrefl XB XC XY XX.injEq Prod.mk.injEq YJ XD Nat.zero_lt_succ Nat.lt_add_one List.getD_cons_zero List.getD_cons_succ List.getD_nil List.range_succ List.range_zero YV Xv Xx
section
mutual
theorem J1:∀p:PV,ren (fun j=>j) p=p
 | .d x=>rfl
 | .any=>rfl
 | .ptr k off=>rfl
 | .own k g=>rfl
 | .rp k g sz i j=>rfl
 | .osl k g sz a n=>rfl
 | .clo g caps=>by simp only[ren,mR caps]
 | .agg l=>by simp only[ren,mR l]
 | .tup l=>by simp only[ren,mR l]
 | .mref k=>rfl
theorem mR:∀l:List PV,iJ (fun j=>j) l=l
 |[]=>rfl
 |p::l=>by simp only[iJ,J1 p,mR l]
end
theorem FE:∀l:List (List PV),jE (fun j=>j) l=l
 |[]=>rfl
 |p::l=>by simp only[jE,mR p,FE l]
theorem zM (c:Chunk):lj (fun j=>j) c=c:=by cases c<;>simp only[lj,mR,FE]
theorem Hq (n:Nat):eC (X5 n) n=fun j=>j:=by
 funext j;rcases XP j n with h|h
 ·have:=mN (ls:=X5 n) (nk:=n) (j:=j) (by simpa using h);rw[ZU h]at this;exact(XX.inj this).symm
 ·have:=ke (X5 n) n (j - n);rw[List.length_range]at this;rw[show n+(j - n)=j by omega]at this;exact this
theorem mf (a:List Chunk)(c d:Chunk)(b:List Chunk):bw (a++c::b) a.length d=a++d::b:=by
 induction a with
 |nil=>rfl
 |cons x a ih=>simp only[X8,XA,bw,ih]
@[go_sem] theorem kC (a:List Chunk)(d:Chunk):bw a a.length d=a++[d]:=by
 induction a with
 |nil=>rfl
 |cons x a ih=>simp only[X8,XA,bw,ih]
theorem vd:∀(l pre rest:List Chunk),rest.length≤l.length→ir (fun j=>j) pre.length l (pre++rest)=pre++l
 |[],pre,rest,h=>by
  have:rest=[]:=X9 (by simpa using h);subst this;simp[ir]
 |c::l,pre,[],h=>by
  simp only[ir,Yv,zM,kC];have:=vd l (pre++[c]) [] (by simp);simpa using this
 |c::l,pre,r::rest,h=>by
  simp only[ir,zM,mf];have:=vd l (pre++[c]) rest (by simpa using h);simpa using this
theorem yn:∀(l pre:List Chunk),ax (aG (pre++l)) (fun j=>j) pre.length l
 |[],_=>trivial
 |c::l,pre=>by
  refine⟨?_,?_⟩
  ·rw[zM];induction pre with
   |nil=>rfl
   |cons a pre ih=>exact ih
  ·have:=yn l (pre++[c]);simpa using this
section
variable {P:Program}{n m:Nat}{T:Nat→Option TI}{Q:Nat→Option Nat}
theorem J2 {dst:Option Nat}{e:cu}{h:List Chunk}{sm:List (List Nat × List Nat)}{R:cu→List Chunk→List (List Nat × List Nat)→Prop}{u:Tg R}{g:Nat}{ps:List PV}{h1:List Chunk}{r:PV}(hM:MSpec P g ps h r h1)
 (hR:R (gp e dst r) h1 ((X5 h1.length,X5 h1.length)::sm)):MH P (.call g ps) dst e h sm R u:=by
 have hid:=Hq h.length;have hle:=hM.le;refine aX (X5 h.length) hM (by rw[hid,mR]) (by simp) List.nodup_range (fun k hk=>by simpa using hk) (by rw[hid];exact yn h []) ?_;have hh:ir (fun j=>j) 0 h1 h=h1:=vd h1 [] h hle;have hm:pM (X5 h.length) h.length h1.length=X5 h1.length:=by
  unfold pM;rw[hid];simp
 rw[hid,J1,hh,hm];exact hR
end
theorem Ee (l:List (List D))(n:Nat):(ab l).take n=ab (l.take n):=by simp[ab]
theorem Hr {α:Type}(l:List α)(i j k:Nat)(z:α)(hi:i < l.length)(hj:j=i+1)(hk:k=i+(l.length - j)):(ay (ay l i ((l.drop j).take (l.length - j))) k [z]).take k=l.eraseIdx i:=by
 subst hj;subst hk;have h1:(l.drop (i+1)).take (l.length - (i+1))=l.drop (i+1):=XN (by rw[XI];omega);rw[h1,YK];have h2:(ay l i (l.drop (i+1))).take (i+(l.length - (i+1)))=l.take i++l.drop (i+1):=by
  unfold ay;rw[Yl (by simp;omega),XN (by simp;omega)]
 rw[←h2];have h3:i+(l.length - (i+1))≤(ay l i (l.drop (i+1))).length:=by rw[bj (by rw[XI];omega)];omega
 generalize ay l i (l.drop (i+1))=l' at h3 ⊢;unfold ay;rw[X3,Yl (by rw[Xp];omega),List.take_take,Zq]
theorem fU {α β:Type}(f:α→β)(l:List α)(i:Nat):(l.eraseIdx i).map f=(l.map f).eraseIdx i:=by
 rw[YK,YK,Xo,ZH,List.map_drop]
theorem lA {α:Type}(l:List α)(i j n:Nat)(hi:i < l.length)(hj:j=i+1)(hn:n=l.length):(ay l i ((l.drop j).take (n - j))).length=l.length:=by
 rw[bj];rw[Xp,XI];omega
theorem n7 {P:Program}{E sz g i j n:Nat}{L:List (List D)}{z:List PV}(hi:i < L.length)(hj:j=i+1)(hn:n=L.length):
 ew P 1 1 [(0,.osl 0 g sz 0 (i+(n - j)))] [.row E sz g (ay (ay (ab L) i (((ab L).drop j).take (n - j))) (i+(n - j)) (XV 1 z))] [(0,.own 0 (g+1))] [.row E sz (g+1) (ab (L.eraseIdx i))]:=by
 have hl:(ab L).length=L.length:=aF L;have h1:=lA (ab L) i j n (by omega) hj (by omega);have h2:(ay (ay (ab L) i (((ab L).drop j).take (n - j))) (i+(n - j)) (XV 1 z)).length=L.length:=by rw[bj (by simp;omega)];omega
 refine qJ 0 g E sz _ _ rfl (fun h=>by rw[h]at h2;simp at h2;omega) (by omega) (bo rfl ?_);have:=Hr (ab L) i j (i+(n - j)) z (by omega) hj (by omega);simp only[bw,List.replicate_one];rw[hn]at this ⊢;rw[hl]at this;rw[this];unfold ab;rw[fU]
def cy {α:Type}(p:α→Bool)(l:List α)(j:Nat):List α:=(l.take j).filter fun x=>!p x
def gW {α:Type}(p:α→Bool)(l:List α)(j:Nat):List α:=cy p l j++l.drop (cy p l j).length
theorem uk {α:Type}(p:α→Bool)(l:List α)(j:Nat):(cy p l j).length≤j∧(cy p l j).length≤l.length:=by
 have h1:=Za (fun x=>!p x) (l.take j);rw[Xp]at h1;unfold cy;omega
theorem FF {α:Type}(p:α→Bool)(l:List α)(j:Nat):(gW p l j).length=l.length:=by
 have:=uk p l j;unfold gW;rw[XY,XI];omega
theorem FG {α:Type}(p:α→Bool)(l:List α)(j i:Nat)(h:(cy p l j).length≤i):(gW p l j)[i]? =l[i]? :=by
 unfold gW;rw[XK h,Yk];congr 1;omega
theorem sh {α:Type}{p:α→Bool}{l:List α}{j:Nat}{x:α}(hx:l[j]? =some x):cy p l (j+1)=cy p l j++if p x then []else [x]:=by
 unfold cy;rw[List.take_add_one,hx,YW];cases h:p x<;>simp[h]
theorem Pf {α:Type}{p:α→Bool}{l:List α}{j:Nat}{x:α}(hx:l[j]? =some x)(hp:p x=true):cy p l (j+1)=cy p l j∧gW p l (j+1)=gW p l j:=by
 have h1:cy p l (j+1)=cy p l j:=by rw[sh hx,hp];simp
 exact⟨h1,by unfold gW;rw[h1]⟩
theorem Pg {α:Type}{p:α→Bool}{l:List α}{j:Nat}{x:α}(hx:l[j]? =some x)(hp:p x=false):(cy p l (j+1)).length=(cy p l j).length+1∧gW p l (j+1)=(gW p l j).set (cy p l j).length x:=by
 have h1:cy p l (j+1)=cy p l j++[x]:=by rw[sh hx,hp];simp
 have hj:=(Xn.1 hx).1;have hk:=uk p l j;refine⟨by rw[h1];simp,?_⟩;unfold gW;rw[h1];obtain⟨y,hy⟩:∃y,l[(cy p l j).length]? =some y:=⟨_,Xk (by omega)⟩;have hd:l.drop (cy p l j).length=y::l.drop ((cy p l j).length+1):=by
  obtain⟨hlt,rfl⟩:=Xn.1 hy;exact YQ hlt
 rw[hd,Yt _ _ (XB _),YG,Xv];simp
theorem yo {α:Type}{p:α→Bool}{l:List α}{i:Nat}(h:l.findIdx? p=some i):i < l.length∧(cy p l (i+1)).length=i∧gW p l (i+1)=l:=by
 obtain⟨hi,hp,cf⟩:=XH.1 h;have h1:cy p l (i+1)=l.take i:=by
  rw[sh (Xk hi),hp];simp only[if_true,Yv];unfold cy;refine Y0.2 fun x hx=>?_;obtain⟨q,hq,rfl⟩:=X0.1 hx;rw[Xp]at hq;have:=cf q (by omega);simp only[ZA];simpa using this
 have h2:(cy p l (i+1)).length=i:=by rw[h1,Xp];omega
 refine⟨hi,h2,?_⟩;unfold gW;rw[h2,h1,YX]
theorem NB {α:Type}(p:α→Bool)(l:List α):cy p l l.length=l.filter fun x=>!p x:=by
 unfold cy;(try rw[Xt])
theorem bO {α:Type}(enc:α→List D)(l:List α)(i:Nat)(x:α):(ab (l.map enc)).set i ((enc x).map .d)=ab ((l.set i x).map enc):=by
 simp only[ab,List.map_set]
structure HpOK (h:List Chunk)(k:Nat):Prop where
 a:∀c,aG (bw h k c) k=c
 b:∀c,(bw h k c).length=h.length
 c:∀c b,aG (bw h k c++[b]) k=c
 d:∀c b,aG (bw h k c++[b]) h.length=b
 e:∀c b,bw (bw h k c) h.length b=bw h k c++[b]
 f:∀c b c',bw (bw h k c++[b]) k c'=bw h k c'++[b]
 g:∀c b b',bw (bw h k c++[b]) h.length b'=bw h k c++[b']
 i:∀c c',bw (bw h k c) k c'=bw h k c'
theorem si:∀(h:List Chunk) (k:Nat) (c c':Chunk),k < h.length→bw (bw h k c) k c'=bw h k c'
 |a::l,0,c,c',_=>rfl
 |a::l,k+1,c,c',h=>by simp only[bw,si l k c c' (by simpa using h)]
theorem yp:∀(h b:List Chunk) (k:Nat) (c:Chunk),k < h.length→bw (h++b) k c=bw h k c++b
 |a::l,b,0,c,_=>rfl
 |a::l,b,k+1,c,h=>by simp only[X8,bw,yp l b k c (by simpa using h)]
theorem P7 {h:List Chunk}{k:Nat}(hk:k < h.length):HpOK h k:=by
 have hb:∀c,(bw h k c).length=h.length:=fun c=>qG hk;have ha:∀c,aG (bw h k c) k=c:=fun c=>by rw[gF (p' hk),if_pos rfl]
 refine⟨ha,hb,fun c b=>by rw[oR _ _ _ (by rw[hb];exact hk),ha],fun c b=>by rw[jG,hb,if_pos rfl],fun c b=>?_,fun c b c'=>?_,fun c b b'=>?_,fun c c'=>si h k c c' hk⟩
 ·have:=kC (bw h k c) b;rwa [hb]at this
 ·rw[yp _ _ _ _ (by rw[hb];exact hk),si h k c c' hk]
 ·have:=mf (bw h k c) b b' [];rwa [hb]at this
theorem sj:∀(h:List Chunk) (k:Nat) (c:Chunk),aG h k=c→k < h.length→bw h k c=h
 |a::l,0,c,e,_=>by subst e;rfl
 |a::l,k+1,c,e,h=>by simp only[bw,sj l k c e (by simpa using h)]
theorem gu (n:Nat):∀(h:List Chunk) (k:Nat) (c:Chunk),aH n h=true→aQ n c=true→k < h.length→aH n (bw h k c)=true
 |a::l,0,c,h1,h2,_=>by simp only[aH,Xy]at h1;simp only[bw,aH,h1.2,h2,Yp]
 |a::l,k+1,c,h1,h2,h3=>by
  simp only[aH,Xy]at h1;simp only[bw,aH,h1.1,gu n l k c h1.2 h2 (by simpa using h3),Yp]
theorem BH {α:Type}(l xs:List α)(n:Nat)(h:n≤l.length):(ay l n xs).take n=l.take n:=by
 unfold ay;rw[X3,Yl (by rw[Xp];omega),List.take_take,Zq]
theorem yq {α:Type}(p:α→Bool)(l:List α):(gW p l l.length).take (cy p l l.length).length=l.filter fun x=>!p x:=by
 unfold gW;rw[Yl (XB _),Xt,NB]
theorem yr {P:Program}{E sz g k K n:Nat}{h:List Chunk}{L:List (List D)}{z:List PV}(hk:k < h.length)(hK:K≤L.length)(h0:L≠[])(hn:n=L.length):
 ew P 1 h.length [(0,.osl k g sz 0 (K - 0))] (bw h k (.row E sz g (ay (ab L) K (XV (n - K) z)))) [(0,.own k (g+1))] (bw h k (.row E sz (g+1) (ab (L.take K)))):=by
 obtain⟨ga,gb,gc,gd,ge,gf,gg,gi⟩:=P7 hk;have hl:(ab L).length=L.length:=aF L;have hs:(ay (ab L) K (XV (n - K) z)).length=L.length:=by rw[bj (by simp;omega)];exact hl
 have hp:0 < L.length:=Zd.2 h0;refine qJ k g E sz _ _ (ga _) (fun e=>by rw[e]at hs;simp at hs;omega) (by omega) (bo rfl ?_);rw[gi,Yo,BH _ _ _ (by omega),Ee]
theorem aR (k g:Nat)(d:D):∀(l m:List (List PV)),f5 k g d (l++m)=f5 k g d l++f5 k g d m
 |[],m=>rfl
 |r::l,m=>by simp only[X8,f5,aR k g d l m]
def VG (p q:PV):Prop:=p=q∨∃d d',p= .d d∧q= .d d'∧ai d d'
def t6:List PV→List PV→Prop
 |[],[]=>True
 |p::l,q::m=>VG p q∧t6 l m
 |_,_=>False
theorem qL {c:Cx}{w:World}:∀{l m:List PV}{vs:List Value},t6 l m→bG c w l vs→bG c w m vs
 |[],[],vs,_,h=>h
 |[],_::_,vs,h,_=>h.elim
 |_::_,[],vs,h,_=>h.elim
 |p::l,q::m,[],_,h=>by have:=h.1;simp at this
 |p::l,q::m,v::vs,⟨h1,h2⟩,h=>by
  have h3:=qL (vs:=vs) h2 ⟨by simpa using h.1,fun j d x hj hx=>h.2 (j+1) d x (by simpa using hj) (by simpa using hx)⟩;refine⟨by simpa using h3.1,fun j d x hj hx=>?_⟩;cases j with
  |zero=>
   simp at hj hx;subst hj;subst hx;have h0:=h.2 0 p v rfl rfl;rcases h1 with rfl|⟨d,d',rfl,rfl,hle⟩
   ·exact h0
   ·exact .d _ _ (hle _ _ _ (co h0))
  |succ j=>exact h3.2 j d x (by simpa using hj) (by simpa using hx)
theorem MSpec.lep {P:Program}{f:Nat}{args args':List PV}{h0 h1:List Chunk}{r:PV}(h:MSpec P f args h0 r h1)(hp:t6 args' args)(hb:an h0.length args'=true):MSpec P f args' h0 r h1:=
 ⟨h.fn,h.le,hb,h.bh,fun X hP hn hm w c vs hr lq=>h.run X hP hn hm w c vs hr (qL hp lq)⟩
theorem zN {P:Program}{f:Nat}{fn:Func}{c:Code}{T:Nat→Option TI}{Q:Nat→Option Nat}{nt:Nat}{rs:Array ResultVar}(cp:TabOK P T Q)(mI:P.follows .mixedOrders=true)(hf:P.funcs[f]? =some fn)(hb:fn.body=some c)(hn:fn.ntmps=nt)(hr:fn.results=rs){args:List PV}{h0 h1:List Chunk}{r:PV}(hc:Ed fn nt c args.length=true)
 (hle:h0.length≤h1.length) (Ax:an h0.length args=true) (hbh:aH h0.length h0=true)
 (hp:sC P nt h0.length T Q c (xq P h0.length T rs.toList r h1) ⟨⟩ (pN args 0) h0):MSpec P f args h0 r h1:=iN cp mI hf hb hn hr hc hle Ax hbh hp
end
structure Hd (Q:Prop):Prop where
 out:Q
structure Or1 (Q:Prop):Prop where
 mk::
structure Ln (ls:List Nat)(P:Program)(g:Nat)(args:List PV)(h0:List Chunk)(r:PV)(h1:List Chunk):Prop where
 out:MSpec P g args h0 r h1
structure Lr (ls:List Nat)(P:Program)(g:Nat)(args:List PV)(h0:List Chunk)(r:PV):Prop where
 out:MSpec P g args h0 r h0
theorem ve {P:Program}{ls:List Nat}{dst:Option Nat}{e:cu}{h:List Chunk}{sm:List (List Nat × List Nat)}{R:cu→List Chunk→List (List Nat × List Nat)→Prop}{u:Tg R}{g:Nat}{ps args:List PV}{h0:List Chunk}{r:PV}(hL:Lr ls P g args h0 r)(lq:ps=iJ (eC ls h.length) args)(hl:ls.length=h0.length)(lf:ls.Nodup)(hlt:∀k∈ls,k < h.length)(iX:ax (aG h) (eC ls h.length) 0 h0)
 (hR:R (gp e dst (ren (eC ls h.length) r)) h (([],pM ls h.length h0.length)::sm)):MH P (.call g ps) dst e h sm R u:=Sc ls hL.out lq hl lf hlt iX hR
theorem BI {P:Program}{ls:List Nat}{dst:Option Nat}{e:cu}{h:List Chunk}{sm:List (List Nat × List Nat)}{R:cu→List Chunk→List (List Nat × List Nat)→Prop}{u:Tg R}{g:Nat}{ps args:List PV}{h0 h1:List Chunk}{r:PV}(hL:Ln ls P g args h0 r h1)(lq:ps=iJ (eC ls h.length) args)(hl:ls.length=h0.length)(lf:ls.Nodup)(hlt:∀k∈ls,k < h.length)(iX:ax (aG h) (eC ls h.length) 0 h0)
 (hR:R (gp e dst (ren (eC ls h.length) r)) (ir (eC ls h.length) 0 h1 h) ((pM ls h.length h1.length,pM ls h.length h1.length)::sm)):MH P (.call g ps) dst e h sm R u:=aX ls hL.out lq hl lf hlt iX hR
theorem bl {A:Prop}(h:A:=by first|rfl|simp only[aH,eh,aQ,an,cC,aq,bn,az,XA,XZ,XM,ZR,decide_true,Yp,YA]):A:=h
theorem se {e e':cu}(h:GV e e':=by repeat' (first|exact trivial|(refine⟨rfl,?_⟩))):GV e e':=h
theorem wi (k:Nat)(h:k < 9223372036854775807):IntKind.i64.wrap ((k:Int)+1)=((k+1:Nat):Int):=by rw[IntKind.wrap_i64];omega
theorem dg {A:Prop}(h:A:=by repeat(first|exact ai.refl _|exact ai.nil _|(refine ai.tup ?_)|(refine ai.agg ?_ rfl)|exact trivial|(refine And.intro ?_ ?_))):A:=h
theorem dz {a b:D}(h:ai a b:=by repeat(first|exact ai.refl _|exact ai.nil _|(refine ai.tup ?_)|(refine ai.agg ?_ rfl)|exact trivial|(refine And.intro ?_ ?_))):ai a b:=h
theorem wf {P:Program}{n m:Nat}{e e':cu}{h h' x:List Chunk}(hm:m≤h'.length:=by simp)(hh:h=h'++x:=by rfl)(he:GV e e':=by repeat' (first|exact trivial|(refine⟨rfl,?_⟩)))
 (hb:eh h'.length e'=true:=by first|rfl|simp only[aH,eh,aQ,an,cC,aq,bn,az,XA,XZ,XM,ZR,decide_true,Yp,YA]) (hbh:aH h'.length h'=true:=by first|rfl|simp only[aH,eh,aQ,an,cC,aq,bn,az,XA,XZ,XM,ZR,decide_true,Yp,YA]):ew P n m e h e' h':=ec x hm hh he hb hbh
theorem aZ {P:Prop}(h:P:=by
 first|((repeat' (first|(with_reducible refine And.intro ?_ ?_)|(with_reducible refine cm (fun cL=>?_) (fun cL=>?_))|(with_reducible refine aA (fun cL=>?_) (fun cL=>?_))|(with_reducible refine be (by kernel_rfl))|simp -dsimp only[go_sem,seval, *,undef,Xt,Yo,bne_self_eq_false,beq_self_eq_true,XR,YZ,YN]|((with_reducible refine bf ?_);simp -dsimp only[go_sem,seval, *,undef,Xt,Yo,bne_self_eq_false,beq_self_eq_true,XR,YZ,YN];first|refine aC (by assumption) (by first|exact .inl rfl|exact .inr rfl) ?_|(refine aB (by assumption) ?_ ?_ ?_;(solve|(repeat(first|exact ai.refl _|exact ai.nil _|(refine ai.tup ?_)|(refine ai.agg ?_ rfl)|exact trivial|(refine And.intro ?_ ?_))));(solve|exact .inl rfl|exact .inr rfl)))|(refine BI (by assumption) ?_ ?_ ?_ ?_ ?_ ?_;(solve|rfl|simp only[go_sem,seval]);(solve|rfl);(solve|decide);(solve|simp);(solve|simp only[go_sem,seval,ax]))|(refine ve (by assumption) ?_ ?_ ?_ ?_ ?_ ?_;(solve|rfl|simp only[go_sem,seval]);(solve|rfl);(solve|decide);(solve|simp);(solve|simp only[go_sem,seval,ax]))|omega|exact decide_eq_true (by omega)|exact ai.refl _));done)|fail):P:=h
theorem am {Q1 P:Prop}(q1:Q1)(h:Hd Q1→P:=by
 intro q1;first|((repeat' (first|(with_reducible refine And.intro ?_ ?_)|(with_reducible refine cm (fun cL=>?_) (fun cL=>?_))|(with_reducible refine aA (fun cL=>?_) (fun cL=>?_))|(with_reducible refine be (by kernel_rfl))|simp -dsimp only[go_sem,seval, *,undef,Xt,Yo,bne_self_eq_false,beq_self_eq_true,XR,YZ,YN]|((with_reducible refine bf ?_);simp -dsimp only[go_sem,seval, *,undef,Xt,Yo,bne_self_eq_false,beq_self_eq_true,XR,YZ,YN];first|refine aC (by assumption) (by first|exact .inl rfl|exact .inr rfl) ?_|(refine aB (by assumption) ?_ ?_ ?_;(solve|(repeat(first|exact ai.refl _|exact ai.nil _|(refine ai.tup ?_)|(refine ai.agg ?_ rfl)|exact trivial|(refine And.intro ?_ ?_))));(solve|exact .inl rfl|exact .inr rfl)))|(refine BI (by assumption) ?_ ?_ ?_ ?_ ?_ ?_;(solve|rfl|simp only[go_sem,seval]);(solve|rfl);(solve|decide);(solve|simp);(solve|simp only[go_sem,seval,ax]))|(refine ve (by assumption) ?_ ?_ ?_ ?_ ?_ ?_;(solve|rfl|simp only[go_sem,seval]);(solve|rfl);(solve|decide);(solve|simp);(solve|simp only[go_sem,seval,ax]))|omega|exact decide_eq_true (by omega)|exact ai.refl _));all_goals((repeat revert cL);first|(with_reducible exact q1.out)))|fail):P:=h ⟨q1⟩
theorem wX {Q1 Q2 P:Prop}(q1:Q1)(q2:Q2)(h:Hd Q1→Hd Q2→P:=by
 intro q1 q2;first|((repeat' (first|(with_reducible refine And.intro ?_ ?_)|(with_reducible refine cm (fun cL=>?_) (fun cL=>?_))|(with_reducible refine aA (fun cL=>?_) (fun cL=>?_))|(with_reducible refine be (by kernel_rfl))|simp -dsimp only[go_sem,seval, *,undef,Xt,Yo,bne_self_eq_false,beq_self_eq_true,XR,YZ,YN]|((with_reducible refine bf ?_);simp -dsimp only[go_sem,seval, *,undef,Xt,Yo,bne_self_eq_false,beq_self_eq_true,XR,YZ,YN];first|refine aC (by assumption) (by first|exact .inl rfl|exact .inr rfl) ?_|(refine aB (by assumption) ?_ ?_ ?_;(solve|(repeat(first|exact ai.refl _|exact ai.nil _|(refine ai.tup ?_)|(refine ai.agg ?_ rfl)|exact trivial|(refine And.intro ?_ ?_))));(solve|exact .inl rfl|exact .inr rfl)))|(refine BI (by assumption) ?_ ?_ ?_ ?_ ?_ ?_;(solve|rfl|simp only[go_sem,seval]);(solve|rfl);(solve|decide);(solve|simp);(solve|simp only[go_sem,seval,ax]))|(refine ve (by assumption) ?_ ?_ ?_ ?_ ?_ ?_;(solve|rfl|simp only[go_sem,seval]);(solve|rfl);(solve|decide);(solve|simp);(solve|simp only[go_sem,seval,ax]))|omega|exact decide_eq_true (by omega)|exact ai.refl _));all_goals((repeat revert cL);first|(with_reducible exact q1.out)|(with_reducible exact q2.out)))|fail)
 (e1:Or1 Q1:=by first|(with_reducible exact(Or1.mk:Or1 True))|exact Or1.mk) (e2:Or1 Q2:=by first|(with_reducible exact(Or1.mk:Or1 True))|exact Or1.mk):P:=h ⟨q1⟩ ⟨q2⟩
theorem zO {Q1 Q2 Q3 P:Prop}(q1:Q1)(q2:Q2)(q3:Q3)(h:Hd Q1→Hd Q2→Hd Q3→P:=by
 intro q1 q2 q3;first|((repeat' (first|(with_reducible refine And.intro ?_ ?_)|(with_reducible refine cm (fun cL=>?_) (fun cL=>?_))|(with_reducible refine aA (fun cL=>?_) (fun cL=>?_))|(with_reducible refine be (by kernel_rfl))|simp -dsimp only[go_sem,seval, *,undef,Xt,Yo,bne_self_eq_false,beq_self_eq_true,XR,YZ,YN]|((with_reducible refine bf ?_);simp -dsimp only[go_sem,seval, *,undef,Xt,Yo,bne_self_eq_false,beq_self_eq_true,XR,YZ,YN];first|refine aC (by assumption) (by first|exact .inl rfl|exact .inr rfl) ?_|(refine aB (by assumption) ?_ ?_ ?_;(solve|(repeat(first|exact ai.refl _|exact ai.nil _|(refine ai.tup ?_)|(refine ai.agg ?_ rfl)|exact trivial|(refine And.intro ?_ ?_))));(solve|exact .inl rfl|exact .inr rfl)))|(refine BI (by assumption) ?_ ?_ ?_ ?_ ?_ ?_;(solve|rfl|simp only[go_sem,seval]);(solve|rfl);(solve|decide);(solve|simp);(solve|simp only[go_sem,seval,ax]))|(refine ve (by assumption) ?_ ?_ ?_ ?_ ?_ ?_;(solve|rfl|simp only[go_sem,seval]);(solve|rfl);(solve|decide);(solve|simp);(solve|simp only[go_sem,seval,ax]))|omega|exact decide_eq_true (by omega)|exact ai.refl _));all_goals((repeat revert cL);first|(with_reducible exact q1.out)|(with_reducible exact q2.out)|(with_reducible exact q3.out)))|fail)
 (e1:Or1 Q1:=by first|(with_reducible exact(Or1.mk:Or1 True))|exact Or1.mk) (e2:Or1 Q2:=by first|(with_reducible exact(Or1.mk:Or1 True))|exact Or1.mk) (e3:Or1 Q3:=by first|(with_reducible exact(Or1.mk:Or1 True))|exact Or1.mk):P:=h ⟨q1⟩ ⟨q2⟩ ⟨q3⟩
theorem RE {Q1 Q2 Q3 Q4 P:Prop}(q1:Q1)(q2:Q2)(q3:Q3)(q4:Q4)(h:Hd Q1→Hd Q2→Hd Q3→Hd Q4→P:=by
 intro q1 q2 q3 q4;first|((repeat' (first|(with_reducible refine And.intro ?_ ?_)|(with_reducible refine cm (fun cL=>?_) (fun cL=>?_))|(with_reducible refine aA (fun cL=>?_) (fun cL=>?_))|(with_reducible refine be (by kernel_rfl))|simp -dsimp only[go_sem,seval, *,undef,Xt,Yo,bne_self_eq_false,beq_self_eq_true,XR,YZ,YN]|((with_reducible refine bf ?_);simp -dsimp only[go_sem,seval, *,undef,Xt,Yo,bne_self_eq_false,beq_self_eq_true,XR,YZ,YN];first|refine aC (by assumption) (by first|exact .inl rfl|exact .inr rfl) ?_|(refine aB (by assumption) ?_ ?_ ?_;(solve|(repeat(first|exact ai.refl _|exact ai.nil _|(refine ai.tup ?_)|(refine ai.agg ?_ rfl)|exact trivial|(refine And.intro ?_ ?_))));(solve|exact .inl rfl|exact .inr rfl)))|(refine BI (by assumption) ?_ ?_ ?_ ?_ ?_ ?_;(solve|rfl|simp only[go_sem,seval]);(solve|rfl);(solve|decide);(solve|simp);(solve|simp only[go_sem,seval,ax]))|(refine ve (by assumption) ?_ ?_ ?_ ?_ ?_ ?_;(solve|rfl|simp only[go_sem,seval]);(solve|rfl);(solve|decide);(solve|simp);(solve|simp only[go_sem,seval,ax]))|omega|exact decide_eq_true (by omega)|exact ai.refl _));all_goals((repeat revert cL);first|(with_reducible exact q1.out)|(with_reducible exact q2.out)|(with_reducible exact q3.out)|(with_reducible exact q4.out)))|fail)
 (e1:Or1 Q1:=by first|(with_reducible exact(Or1.mk:Or1 True))|exact Or1.mk) (e2:Or1 Q2:=by first|(with_reducible exact(Or1.mk:Or1 True))|exact Or1.mk) (e3:Or1 Q3:=by first|(with_reducible exact(Or1.mk:Or1 True))|exact Or1.mk) (e4:Or1 Q4:=by first|(with_reducible exact(Or1.mk:Or1 True))|exact Or1.mk):P:=h ⟨q1⟩ ⟨q2⟩ ⟨q3⟩ ⟨q4⟩
theorem BJ {s:Bool}{ents:List (List Int × Int)}{seen:List Nat}(h:(leftOf (bu s ents 0).toArray seen.toArray).size=0){i:Nat}(hi:i < ents.length):i∈seen:=by
 have hg:=nW s ents 0 i;rw[Xk hi]at hg;have hm:=Xl hg;refine Classical.byContradiction fun hn=>?_;have:{key:=i5 s ents[i].1,val:=Value.int .i64 ents[i].2,born:=0+i:MapEntry}∈(leftOf (bu s ents 0).toArray seen.toArray).toList:=by
  unfold leftOf;simp;exact⟨by simpa using hm,by simpa using hn⟩
 have hz:(leftOf (bu s ents 0).toArray seen.toArray).toList=[]:=by
  have:(leftOf (bu s ents 0).toArray seen.toArray)=#[]:=Array.eq_empty_of_size_eq_zero h;rw[this]
 rw[hz]at this;simp at this
theorem BK {s:Bool}{ents:List (List Int × Int)}{seen:List Nat}{x:MapEntry}(h:x∈(leftOf (bu s ents 0).toArray seen.toArray).toList):∃i,i < ents.length∧i∉seen∧x.born=i:=by
 unfold leftOf at h;simp at h;have:=kg s ents 0 x h.1;exact⟨x.born,by omega,by simpa using h.2,rfl⟩
theorem RealC.set_it {X:Cfg}{s:FS}{a:Act}{w:World}{c:Cx}(h:RealC X s a w c){k n b bm:Nat}{sB:Bool}{ents:List (List Int × Int)}{seen:List Nat}(i:Nat)(hk:s.heap k= .it n sB ents seen)(hb:c.bl k=some b)(hh:w.heap[b]? =some (.mapIter (some bm) ents.length seen.toArray ents.length))(hM:¬c.M bm)(hm:w.heap[bm]? =some (.map (bu sB ents 0).toArray ents.length)):
 RealC X {s with heap:=cE [(k,.it n sB ents (seen++[i]))] s.heap} a {w with heap:=w.heap.setIfInBounds b (.mapIter (some bm) ents.length (seen.toArray.push i) ents.length)} c:=by
 have cG:c.block k (s.heap k)=some b:=by rw[hk];exact hb
 have hlt:b < w.heap.size:=(Yz.1 hh).1;have bB:b≠bm:=fun e=>hM ((h.mu bm).2 (.inr ⟨k,by rw[cG,e]⟩));have Uu:(w.heap.setIfInBounds b (.mapIter (some bm) ents.length (seen.toArray.push i) ents.length))[b]? =some (.mapIter (some bm) ents.length (seen.toArray.push i) ents.length):=by simp[hlt]
 have pk:∀b',b'≠b→(w.heap.setIfInBounds b (.mapIter (some bm) ents.length (seen.toArray.push i) ents.length))[b']? =w.heap[b']? :=fun b' hb'=>by
  rw[Array.getElem?_setIfInBounds];rw[if_neg (fun e=>hb' e.symm)]
 refine h.turn c.le_refl rfl (fun _ _=>rfl) (fun _ _=>rfl) rfl rfl rfl (by simp) (fun b' _ hb'=>pk b' (fun e=>hb' (by rw[e];exact cG))) (fun b'=>?_) (fun b' hb'=>?_) (fun lK=>?_)
 ·show c.M b'↔(c.M b'∧c.block k (s.heap k)≠some b')∨c.bl k=some b';rw[cG,hb];constructor
  ·intro hm;by_cases e:b=b'
   ·exact .inr (by rw[e])
   ·exact .inl ⟨hm,fun h=>e (XX.inj h)⟩
  ·rintro (⟨hm,_⟩|e)
   ·exact hm
   ·exact(h.mu b').2 (.inr ⟨k,by rw[cG];exact e⟩)
 ·have e:c.bl k=some b':=hb';refine⟨.inl (by rw[cG,←hb];exact e),?_⟩;simp only[Array.size_setIfInBounds];exact(h.new k b' (by rw[cG,←hb];exact e)).2
 ·exact .it n sB ents (seen++[i]) b bm hb (by rw[Uu];simp) hM (by rw[pk bm (fun e=>bB e.symm)];exact hm)
section
variable {P:Program}{n m:Nat}{T:Nat→Option TI}{Q:Nat→Option Nat}{K K':KT}{e:cu}{h:List Chunk}
theorem BL {c:Code}(hK:∀x e h,K x e h→K' x e h)(hs:tn P n m c K e h):tn P n m c K' e h:=fun X hX hn qj a w hr=>
 wp_mono (hs X hX hn qj a w hr) fun _ _ _ ⟨e',h',hk,hr'⟩=>⟨e',h',hK _ _ _ hk,hr'⟩
theorem FH {a b:Code}(cp:TabOK P T Q)(mI:P.follows .mixedOrders=true)(hb:lz n b=true)(ha:tn P n m a (u6 (sC P n m T Q b K ⟨⟩) K) e h):tn P n m (.seq a b) K e h:=
 Fz fun C hC=>BL (fun x e h hk=>by
  cases x with
  |normal=>exact hC _ _ (iM cp mI b _ _ _ hb hk)
  |_=>exact hk) ha
theorem BM (cp:TabOK P T Q){id d1 d2 k nn:Nat}{o1 o2:Oper}{x:Operand}{sB:Bool}{ents:List (List Int × Int)}{seen:List Nat}(li:m≤h.length)(VS:o1.op= .next x false)(SU:o1.guard=none)(Dn:o1.dst=some d1)(Ma:o2.op= .extract (.tmp d1) 0)(WY:o2.guard=none)(zf:o2.dst=some d2)(Uv:d1 < n)(QT:d2 < n)
 (hx:dI e x= .ptr k 0) (hk:aG h k= .it nn sB ents seen) (uw:k < h.length)
 (h0:(∀i,i < ents.length→i∈seen)→K .normal (gp (gp e (some d1) (.tup [.d (.v (.bool false))])) (some d2) (.d (.v (.bool false)))) h)
 (h1:∀i,i < ents.length→i∉seen→K .normal (gp (gp e (some d1) (.tup [.d (.v (.bool true)),.any,.any])) (some d2) (.d (.v (.bool true)))) (pL [(k,.it nn sB ents (seen++[i]))] h)):tn P n m (.region id #[o1,o2] false) K e h:=by
 intro X hX hn qj a w hr;subst hX;subst hn;subst qj;obtain⟨c,hc⟩:=hr;refine wp_region_list ?_;show wpList X.P #[o1,o2] _ [o1,o2] a w;unfold wpList;rw[if_pos (by unfold Region.wanted;rw[SU])];left;have e1:=bM hc x;rw[aD,hx]at e1;have bc:=hc.chunk k;have iV:(bQ e h).heap k= .it nn sB ents seen:=hk;rw[iV]at bc;generalize hu:a.eval x=u at e1;have fin:∀(tp:PV) (b:Bool) (e':cu) (h':List Chunk) (a':Act) (w':World),e'=gp e (some d1) tp→(∃l,tp= .tup (.d (.v (.bool b))::l))→X.m≤h'.length→j7 X (bQ e' h') a' w'→K .normal (gp e' (some d2) (.d (.v (.bool b)))) h'→wpList X.P #[o1,o2] (RK X K) [o2] a' w':=by
  rintro tp b e' h' a' w' he ⟨l,rfl⟩ hm' hr' hK;unfold wpList;rw[if_pos (by unfold Region.wanted;rw[WY])];left;have lQ:MG T Q e' h' o2= .res (.d (.v (.bool b))) [] [] True:=by
   unfold MG;rw[Ma];simp only[dI];rw[show fp e' d1= .tup (.d (.v (.bool b))::l) by rw[he];simp[gp,fp]];simp[yf]
  have bF:=JJ (X:=X) (ops:=#[o1,o2]) cp (fun d hd=>by rw[zf]at hd;cases hd;exact QT) hm' lQ trivial;refine bF.2.2 (bQ e' h') (fun _ _=>rfl) (fun _ _=>rfl) a' w' hr' _ _ fun v w'' hr''=>?_;unfold wpList;refine⟨_,_,hK,?_⟩;rw[oP (fun kc h=>by simp at h),zf]at hr'';rw[←zf]at hr'';simpa[pL,zf]using hr''
 cases e1 with
 |ptr _ _ b hb=>
  cases bc with
  |it _ _ _ _ b' bm hb' hh hM hm=>
   rw[hb]at hb';cases hb';have Dp:∀(tp:PV) (v:Value) (h':List Chunk) (w':World) (c':Cx),RealC X (bQ e h') a w' c'→RepP c' w' tp v→j7 X (bQ (gp e (some d1) tp) h') (a.put o1.dst v) w':=by
    intro tp v h' w' c' hc' hp;have:=hc'.put (dst:=o1.dst) hp (fun d hd=>by rw[Dn]at hd;cases hd;exact Uv);have h2:=oP (e:=e) (h:=h') (dst:=o1.dst) (p:=tp) (eff:=[]) (touch:=[]) (fun kc h=>by simp at h);rw[←Dn];refine⟨c',?_⟩;show RealC X (bQ (gp e o1.dst tp) (pL [] h')) _ w' c';rw[←h2];exact this
   rcases run_next_at (P:=X.P) w o1.type b bm ents.length ents.length seen.toArray (bu sB ents 0).toArray ents.length hh hm (fun x hx=>by have:=kg sB ents 0 x (by simpa using hx);omega) (XB _)with⟨hz,cr⟩|⟨x1,nj,w1,cj,cr⟩
   ·unfold Oper.wp;have Uw:(execOp a.eval o1).run X.P w= .ok (.value (.tuple #[.bool false])) w:=by
     simp only[execOp,VS,hu];rw[Sem.run_bind,cr];rfl
    rw[Uw];exact fin (.tup [.d (.v (.bool false))]) false _ h _ _ rfl ⟨_,rfl⟩ li (Dp _ _ h w c hc (.tup _ [.bool false] rfl (fun j d y h1 h2=>by
     match j with
     |0=>simp at h1 h2;subst h1;subst h2;exact .d _ _ (.v _)
     |j+1=>simp at h1))) (h0 fun i hi=>BJ hz hi)
   ·obtain⟨i,hi,RN,Ss⟩:=BK nj;have OS:RealC X (bQ e h) a w1 c:=by
     rcases cj with rfl|rfl
     ·exact hc
     ·exact hc.grow ⟨rfl,rfl,rfl,XB _,fun _ _=>rfl⟩
    have wM:w1.heap=w.heap:=by rcases cj with rfl|rfl<;>rfl
    have gM:=OS.set_it i iV hb (by rw[wM];exact hh) hM (by rw[wM];exact hm);unfold Oper.wp;have Uw:(execOp a.eval o1).run X.P w= .ok (.value (.tuple #[.bool true,x1.key,x1.val])) {w1 with heap:=w1.heap.setIfInBounds b (.mapIter (some bm) ents.length (seen.toArray.push i) ents.length)}:=by
     simp only[execOp,VS,hu];rw[Sem.run_bind,cr,←Ss];rfl
    rw[Uw];have bT:∀kc∈[(k,Chunk.it nn sB ents (seen++[i]))],kc.1≤h.length:=fun kc MK=>by simp at MK;subst MK;omega
    have WZ:aG (pL [(k,Chunk.it nn sB ents (seen++[i]))] h)=cE [(k,Chunk.it nn sB ents (seen++[i]))] (aG h):=funext (sa bT);have SV:RealC X (bQ e (pL [(k,Chunk.it nn sB ents (seen++[i]))] h)) a {w1 with heap:=w1.heap.setIfInBounds b (.mapIter (some bm) ents.length (seen.toArray.push i) ents.length)} c:=by
     have:bQ e (pL [(k,Chunk.it nn sB ents (seen++[i]))] h)={bQ e h with heap:=cE [(k,.it nn sB ents (seen++[i]))] (bQ e h).heap}:=by
      simp only[bQ,WZ]
     rw[this];exact gM
    refine fin (.tup [.d (.v (.bool true)),.any,.any]) true _ _ _ _ rfl ⟨_,rfl⟩ ?_ (Dp _ _ _ _ c SV (.tup _ [.bool true,x1.key,x1.val] rfl (fun j d y h1 h2=>by
     match j with
     |0=>simp at h1 h2;subst h1;subst h2;exact .d _ _ (.v _)
     |1=>simp at h1 h2;subst h1;exact .any _
     |2=>simp at h1 h2;subst h1;exact .any _
     |j+3=>simp at h1))) (h1 i hi RN)
    exact Yy li qF
theorem Ph {c:Code}(I:Nat→cu→List Chunk→Prop)(mm:Nat)(e1:cu)(h1:List Chunk)(h0:I mm e1 h1)(hw:ew P n m e h e1 h1)
 (hr:∀k e h,I k e h→∀C:cu→List Chunk→Prop,(∀k' e1 h1 e h,k' < k→I k' e1 h1→ew P n m e h e1 h1→C e h)→tn P n m c (sg C K) e h):BE P n m c K ⟨⟩ e h:=
 fun _=>Bz I mm e1 h1 h0 hw fun k e h hI C hC=>BL (fun x e h hk=>by cases x<;>exact hk) (hr k e h hI C hC)
end
@[go_sem] theorem VH (h:Nat→Chunk)(l:List D):cJ (vw h) (l.map .d)=some l:=ui h 6 l
@[go_sem] theorem VI (h:Nat→Chunk)(l:List D):jh (tc h) (l.map .d)=[]:=zA h 6 l
def cv {α:Type}(p:α→Bool)(l:List α):Int:=match l.findIdx? p with|some i=>(i:Int)|none=> -1
theorem fV {α:Type}{p:α→Bool}{l:List α}{k:Nat}{x:α}(hx:l[k]? =some x)(hp:p x=true)(cf:∀y∈l.take k,p y=false):cv p l=k:=by
 have h:l.findIdx? p=some k:=by
  rw[XH];obtain⟨hk,hx'⟩:=Xn.1 hx;refine⟨hk,by rw[hx'];exact hp,fun j hj=>?_⟩;have:=cf l[j] (Xl (by rw[XS hj];exact Xk (by omega)));rw[this];simp
 simp[cv,h]
theorem fW {α:Type}{p:α→Bool}{l:List α}(cf:∀y∈l,p y=false):cv p l= -1:=by
 have h:l.findIdx? p=none:=by rw[Yn];exact cf
 simp[cv,h]
theorem fK {α:Type}(p:α→Bool)(l:List α):decide (cv p l≥0)=l.any p:=by
 unfold cv;cases h:l.findIdx? p with
 |none=>
  rw[Yn]at h;have:l.any p=false:=by rw[Yh];intro x hx;rw[h x hx];simp
  rw[this];rfl
 |some i=>
  obtain⟨hi,hp,_⟩:=XH.1 h;have:l.any p=true:=XU.2 ⟨_,Ym hi,hp⟩;rw[this];simp
def ep (a b:Int):Int:=if a < b then -1 else if a>b then 1 else 0
theorem qM (a b:Int):decide (ep a b < 0)=decide (a < b):=by
 unfold ep;split
 ·simp[*]
 ·split<;>simp[*]
theorem sk (a b:Int):(ep a b==0)=(a==b):=by
 unfold ep;split
 ·rename_i h;rw[Yi];simp;omega
 ·split
  ·rw[Yi];simp;omega
  ·rw[Yi];simp;omega
theorem vf (x:Int):IntKind.u64.wrap x=x % 18446744073709551616:=rfl
def i8 {α:Type}(key:α→Int)(t:Int)(l:List α):Nat:=l.findIdx fun x=>decide (t≤key x)
def qN {α:Type}(key:α→Int)(t:Int)(l:List α):Bool:=match l[i8 key t l]? with|some x=>key x==t|none=>false
theorem pT {α:Type}{key:α→Int}{t:Int}{l:List α}{i:Nat}(hi:i≤l.length)(iZ:∀q (hq:q < l.length),q < i→key l[q] < t)(jX:∀q (hq:q < l.length),i≤q→t≤key l[q]):i8 key t l=i:=by
 unfold i8;rcases XP i l.length with h|h
 ·rw[List.findIdx_eq h];refine⟨by simpa using jX i h (XB _),fun j hj=>?_⟩;have:=iZ j (by omega) hj;simp;omega
 ·obtain rfl:i=l.length:=by omega
  rw[List.findIdx_eq_length];intro x hx;obtain⟨q,hq,rfl⟩:=X0.1 hx;have:=iZ q hq hq;simp;omega
theorem pj {f nt:Nat}{fn:Func}{c:Code}{rs:Array ResultVar}{ds:List D}{r:D}(hf:prog.funcs[f]? =some fn)(hn:fn.ntmps=nt)(hr:fn.results=rs)
 (hp:sC prog nt 0 xr JO c (qH xr rs.toList r) ⟨⟩ (pN (ds.map .d) 0) []) (hb:fn.body=some c:=by exact rfl) (hc:Ed fn nt c ds.length=true:=by kernel_rfl):af prog f ds r:=T7 ae ak hf hb hn hr hc hp
theorem mj {f nt:Nat}{fn:Func}{c:Code}{rs:Array ResultVar}{args:List PV}{h0 h1:List Chunk}{r:PV}(hf:prog.funcs[f]? =some fn)(hn:fn.ntmps=nt)(hr:fn.results=rs)
 (hp:sC prog nt h0.length xr JO c (xq prog h0.length xr rs.toList r h1) ⟨⟩ (pN args 0) h0) (hb:fn.body=some c:=by exact rfl) (hc:Ed fn nt c args.length=true:=by kernel_rfl)
 (hle:h0.length≤h1.length:=by simp) (Ax:an h0.length args=true:=by simp[an,aq]) (hbh:aH h0.length h0=true:=by simp[aH,aQ,an,aq,bn,az]):MSpec prog f args h0 r h1:=iN ae ak hf hb hn hr hc hle Ax hbh hp
theorem BN {α:Type}{enc:α→List D}(eB:∀x,(enc x).length=2)(p:α→Bool)(l:List α)(g:Nat)(caps:List D)(hl:l.length≤1000000000)(hc:∀x∈l,af prog g (.agg (enc x)::caps) (.v (.bool (p x)))):
 af prog 179 [.sl 2 (l.map enc),.clo g caps] (.v (.int .i64 (cv p l))):=by
 refine pj func179 ntmps179 results179 ?_;refine am ?_<;>intros;refine bL ae ak (fun m e h=>∃k:Nat,k≤l.length∧(∀x∈l.take k,p x=false)∧m=l.length - k∧e=[(8,.d (.v (.int .i64 k))),(7,.d (.v (.int .i64 l.length))),(4,.d (.v (.int .i64 0))),(1,.d (.clo g caps)),(0,.d (.sl 2 (l.map enc)))]∧h=[]) _ _ _ ⟨0,XD _,by simp,rfl,rfl,rfl⟩ ?_ ?_
 ·exact wf (x:=[]) (hh:=rfl) (he:=⟨rfl,rfl,rfl,rfl,rfl,trivial⟩)
 ·rintro m e h ⟨k,hk,cf,rfl,rfl,rfl⟩ CL mJ;by_cases hlt:k < l.length
  ·obtain⟨x,hx⟩:∃x,l[k]? =some x:=⟨_,Xk hlt⟩;have en:(k:Int) < (l.length:Int):=by omega
   have cM:=wi k (by omega);have bT:=eB x;have gU:(enc x).take 2=enc x:=XN (by omega);have jC:=hc x (Xl hx);cases hp:p x with
   |false=>
    rw[hp]at jC;refine am ?_<;>intros;refine mJ _ _ _ _ _ ?_ ⟨k+1,hlt,?_,rfl,rfl,rfl⟩ (wf (x:=[]) (hh:=rfl) (he:=⟨rfl,rfl,rfl,rfl,rfl,trivial⟩))
    ·omega
    ·intro y hy;rw[ag hx]at hy;rcases X2.1 hy with hy|hy
     ·exact cf y hy
     ·rw[Yc]at hy;rw[hy];exact hp
   |true=>
    rw[hp]at jC;have ld:cv p l=k:=fV hx hp cf;exact aZ;all_goals rw[ld]
    all_goals exact ai.refl _
  ·obtain rfl:k=l.length:=by omega
   rw[Xt]at cf;refine am ?_<;>intros;all_goals rw[fW cf]
   all_goals exact ai.refl _
theorem tt {α:Type}{enc:α→List D}(eB:∀x,(enc x).length=2)(p:α→Bool)(l:List α)(g:Nat)(caps:List D)(hl:l.length≤1000000000)(hc:∀x∈l,af prog g (.agg (enc x)::caps) (.v (.bool (p x)))):
 af prog 95 [.sl 2 (l.map enc),.clo g caps] (.v (.bool (l.any p))):=by
 have hi:=BN eB p l g caps hl hc;have im:=fK p l;refine pj func95 ntmps95 results95 ?_;exact aZ;all_goals exact ai.refl _
theorem ki (a:Int):af prog 195 [.v (.int .i64 a)] (.v (.bool false)):=by
 have h:(a !=a)=false:=by simp
 refine pj func195 ntmps195 results195 ?_;exact aZ;all_goals exact ai.refl _
theorem mg (a b:Int):af prog 113 [.v (.int .i64 a),.v (.int .i64 b)] (.v (.int .i64 (ep a b))):=by
 rcases Int.lt_trichotomy a b with h|h|h
 ·have h1:decide (a < b)=true:=by simpa using h
  have e:ep a b= -1:=by simp[ep,h]
  refine pj func113 ntmps113 results113 ?_;have z1z:=ki a;have z2z:=ki b;exact aZ;all_goals(rw[e];exact ai.refl _)
 ·subst h;have e:ep a a=0:=by simp[ep]
  have h1:decide (a>a)=false:=by simp
  refine pj func113 ntmps113 results113 ?_;have z1z:=ki a;exact aZ;all_goals(rw[e];exact ai.refl _)
 ·have h1:decide (a < b)=false:=by simp;omega
  have h2:decide (a>b)=true:=by simpa using h
  have e:ep a b=1:=by unfold ep;rw[if_neg (by omega),if_pos h]
  refine pj func113 ntmps113 results113 ?_;have z1z:=ki a;have z2z:=ki b;exact aZ;all_goals(rw[e];exact ai.refl _)
theorem BO:∀(h:List Chunk) (k:Nat),aG (h.map fun _=>Chunk.gone) k=if k < h.length then .gone else .none
 |[],_=>rfl
 |c::l,0=>rfl
 |c::l,k+1=>by simp only[Xm,aG,BO l k,XA,Nat.add_lt_add_iff_right]
theorem vg {P:Program}{f:Nat}{args:List PV}{h0:List Chunk}{ds:List D}{r:D}(hp:af P f ds r)(Ax:an h0.length args=true)(hbh:aH h0.length h0=true)(hv:cJ (vw (aG h0)) args=some ds)(ht:∀k∈jh (tc (aG h0)) args,k < h0.length):MSpec P f args h0 (.d r) (h0.map fun _=> .gone):=by
 refine⟨hp.1,by simp,Ax,hbh,fun X hP hn hm w c vs hr lq=>?_⟩;subst hP;have hf:=hr.freeze (X5 h0.length);obtain⟨q1,q2⟩:=eV hv;have bA:dZ (lw c (aG h0) (X5 h0.length)) w ds vs:=⟨by rw[←q1];exact lq.1,fun j d x hj hx=>by
  obtain⟨p,hp',wK⟩:=q2 j d hj;exact kG hr 6 wK (fun k hk=>YR.2 (ht k (fJ (Xl hp') k hk))) (lq.2 j p x hp' hx)⟩
 refine(hp.2 _ w vs (fun b hb=>hr.lt hb.1) (hr.ginv.keep ⟨XB _,fun _ _ _=>rfl,fun b _ hb=>hb.1⟩) bA).mono ?_;rintro e w' ⟨v,rfl,hv',hx⟩;refine⟨v,{c with M:=lw c (aG h0) (X5 h0.length)},rfl,.d _ _ hv',?_⟩;have hg:=hf.grow hx;have he:({bQ [] h0 with heap:=cE ((X5 h0.length).map fun k=>(k,.gone)) (bQ [] h0).heap}:FS)=bQ [] (h0.map fun _=> .gone):=by
  simp only[bQ,FS.mk.injEq,true_and];funext k;rw[ma,BO];by_cases hk:k < h0.length
  ·rw[if_pos (YR.2 hk),if_pos hk]
  ·rw[if_neg (fun h=>hk (YR.1 h)),if_neg hk];exact mP h0 k (by omega)
 rw[he]at hg;exact hg
theorem J3 (p:PV):VG p p:= .inl rfl
theorem yt:∀(l:List PV),t6 l l
 |[]=>trivial
 |p::l=>⟨J3 p,yt l⟩
theorem BP:∀{a b c d:List PV},t6 a b→t6 c d→t6 (a++c) (b++d)
 |[],[],_,_,_,h=>h
 |[],_::_,_,_,h,_=>h.elim
 |_::_,[],_,_,h,_=>h.elim
 |_::_,_::_,_,_,⟨h1,h2⟩,h=>⟨h1,BP h2 h⟩
theorem BQ:∀{a b:List PV},t6 a b→a.length=b.length
 |[],[],_=>rfl
 |[],_::_,h=>h.elim
 |_::_,[],h=>h.elim
 |_::_,_::_,⟨_,h⟩=>by simp[BQ h]
theorem Ef:∀{a b:List D},pO a b→t6 (a.map .d) (b.map .d)
 |[],[],_=>trivial
 |[],_::_,h=>h.elim
 |_::_,[],h=>h.elim
 |_::_,_::_,⟨h1,h2⟩=>⟨.inr ⟨_,_,rfl,rfl,h1⟩,Ef h2⟩
def t7:List (List PV)→List (List PV)→Prop
 |[],[]=>True
 |r::l,s::m=>t6 r s∧t7 l m
 |_,_=>False
theorem sn:∀(l:List (List PV)),t7 l l
 |[]=>trivial
 |r::l=>⟨yt r,sn l⟩
theorem BR:∀{a b c d:List (List PV)},t7 a b→t7 c d→t7 (a++c) (b++d)
 |[],[],_,_,_,h=>h
 |[],_::_,_,_,h,_=>h.elim
 |_::_,[],_,_,h,_=>h.elim
 |_::_,_::_,_,_,⟨h1,h2⟩,h=>⟨h1,BR h2 h⟩
theorem yu:∀{a b:List (List PV)},t7 a b→t6 a.flatten b.flatten
 |[],[],_=>trivial
 |[],_::_,h=>h.elim
 |_::_,[],h=>h.elim
 |_::_,_::_,⟨h1,h2⟩=>BP h1 (yu h2)
theorem BS:∀{a b:List (List PV)},t7 a b→a.length=b.length
 |[],[],_=>rfl
 |[],_::_,h=>h.elim
 |_::_,[],h=>h.elim
 |_::_,_::_,⟨_,h⟩=>by simp[BS h]
theorem FJ {sz:Nat}:∀{a b:List (List PV)},t7 a b→(∀r∈a,r.length=sz)→∀r∈b,r.length=sz
 |[],[],_,_=>fun r h=>by simp at h
 |[],_::_,h,_=>h.elim
 |_::_,[],h,_=>h.elim
 |_::_,_::_,⟨h1,h2⟩,h=>fun r hr=>by
  rcases X7.1 hr with rfl|hr
  ·rw[←BQ h1];exact h _ (by simp)
  ·exact FJ h2 (fun r hr=>h r (by simp[hr])) r hr
theorem qO {A B:List (List D)}{r s:List D}(h:pO r s):t7 (ab (A++r::B)) (ab (A++s::B)):=by
 simp only[ab,Xo,Xm];exact BR (sn _) ⟨Ef h,sn _⟩
theorem kH {α:Type}{enc:α→List D}(h:∀x,(enc x).all D.one=true)(l:List α):∀r∈ab (l.map enc),∀d∈r,d.one=true:=fun r hr d hd=>by
 obtain⟨q,hq,rfl⟩:=iq hr;obtain⟨x,-,rfl⟩:=XQ.1 hq;obtain⟨y,hy,rfl⟩:=XQ.1 hd;exact XE.1 (h x) y hy
theorem RealC.row_le {X:Cfg}{e:cu}{h:List Chunk}{a:Act}{w:World}{c:Cx}(hr:RealC X (bQ e h) a w c){k E sz g:Nat}{rows rows':List (List PV)}(hk:aG h k= .row E sz g rows)(hlt:k < h.length)(hle:t7 rows rows')(h1:∀r∈rows',∀d∈r,d.one=true):
 RealC X (bQ e (bw h k (.row E sz g rows'))) a w c:=by
 have hh:∀k',(bQ e (bw h k (.row E sz g rows'))).heap k'=if k'=k then .row E sz g rows' else (bQ e h).heap k':=fun k'=>gF (p' hlt) k';have hb:∀k',c.block k' ((bQ e (bw h k (.row E sz g rows'))).heap k')=c.block k' ((bQ e h).heap k'):=by
  intro k';rw[hh];split
  ·rename_i he;subst he;show _=c.block k' (aG h k');rw[hk];rfl
  ·rfl
 refine⟨hr.size,hr.defers,hr.ext,hr.inv,hr.fresh,fun b=>?_,fun k' b Gy=>?_,fun k' k'' b h1 h2=>?_,hr.env,fun k'=>?_,hr.lent⟩
 ·rw[hr.mu b];simp only[hb]
 ·rw[hb]at Gy;exact hr.new k' b Gy
 ·rw[hb]at h1 h2;exact hr.apart k' k'' b h1 h2
 ·rw[hh];split
  ·rename_i he;subst he;have bc:=hr.chunk k';rw[show (bQ e h).heap k'=_ from hk]at bc;cases bc with
   |row _ _ _ _ v xs hv cX Dq cP eP hg=>
    exact .row E sz g rows' v xs hv (by rw[←BS hle];exact cX) (qL (yu hle) Dq) (FJ hle cP) h1 hg
  ·exact hr.chunk k'
theorem tu {P:Program}{n m:Nat}{e:cu}{h:List Chunk}(k:Nat){E sz g:Nat}{rows rows':List (List PV)}(hk:aG h k= .row E sz g rows)(hlt:k < h.length)(hle:t7 rows rows')(h1:∀r∈rows',∀d∈r,d.one=true):ew P n m e h e (bw h k (.row E sz g rows')):=
 fun X _ _ _ a w ⟨c,hc⟩=>⟨c,hc.row_le hk hlt hle h1⟩
theorem MSpec.leh {P:Program}{f:Nat}{args:List PV}{E sz g:Nat}{rows rows':List (List PV)}{r:PV}{h1:List Chunk}(hM:MSpec P f args [.row E sz g rows'] r h1)(hle:t7 rows rows')(ho:∀r∈rows',∀d∈r,d.one=true)(hb:cC 1 rows=true):MSpec P f args [.row E sz g rows] r h1:=
 ⟨hM.fn,hM.le,hM.ba,by simp only[XA,XZ,aH,aQ,XG,hb,Yp],fun X hP hn hm w c vs hr lq=>hM.run X hP hn hm w c vs (hr.row_le (k:=0) rfl (by simp) hle ho) lq⟩
theorem vh {α:Type}{enc:α→List D}(eB:∀x,(enc x).length=3)(p:α→Bool)(l:List α)(g:Nat)(caps:List D)(hl:l.length≤1000000000)(hc:∀x∈l,af prog g (.agg (enc x)::caps) (.v (.bool (p x)))):
 af prog 143 [.sl 3 (l.map enc),.clo g caps] (.v (.int .i64 (cv p l))):=by
 refine pj func143 ntmps143 results143 ?_;refine am ?_<;>intros;refine bL ae ak (fun m e h=>∃k:Nat,k≤l.length∧(∀x∈l.take k,p x=false)∧m=l.length - k∧e=[(8,.d (.v (.int .i64 k))),(7,.d (.v (.int .i64 l.length))),(4,.d (.v (.int .i64 0))),(1,.d (.clo g caps)),(0,.d (.sl 3 (l.map enc)))]∧h=[]) _ _ _ ⟨0,XD _,by simp,rfl,rfl,rfl⟩ ?_ ?_
 ·exact wf (x:=[]) (hh:=rfl) (he:=⟨rfl,rfl,rfl,rfl,rfl,trivial⟩)
 ·rintro m e h ⟨k,hk,cf,rfl,rfl,rfl⟩ CL mJ;by_cases hlt:k < l.length
  ·obtain⟨x,hx⟩:∃x,l[k]? =some x:=⟨_,Xk hlt⟩;have en:(k:Int) < (l.length:Int):=by omega
   have cM:=wi k (by omega);have bT:=eB x;have gU:(enc x).take 3=enc x:=XN (by omega);have jC:=hc x (Xl hx);cases hp:p x with
   |false=>
    rw[hp]at jC;refine am ?_<;>intros;refine mJ _ _ _ _ _ ?_ ⟨k+1,hlt,?_,rfl,rfl,rfl⟩ (wf (x:=[]) (hh:=rfl) (he:=⟨rfl,rfl,rfl,rfl,rfl,trivial⟩))
    ·omega
    ·intro y hy;rw[ag hx]at hy;rcases X2.1 hy with hy|hy
     ·exact cf y hy
     ·rw[Yc]at hy;rw[hy];exact hp
   |true=>
    rw[hp]at jC;have ld:cv p l=k:=fV hx hp cf;exact aZ;all_goals rw[ld]
    all_goals exact ai.refl _
  ·obtain rfl:k=l.length:=by omega
   rw[Xt]at cf;refine am ?_<;>intros;all_goals rw[fW cf]
   all_goals exact ai.refl _
theorem mS {α:Type}{enc:α→List D}(eB:∀x,(enc x).length=3)(p:α→Bool)(l:List α)(g:Nat)(caps:List D)(hl:l.length≤1000000000)(hc:∀x∈l,af prog g (.agg (enc x)::caps) (.v (.bool (p x)))):
 af prog 209 [.sl 3 (l.map enc),.clo g caps] (.v (.bool (l.any p))):=by
 have hi:=vh eB p l g caps hl hc;have im:=fK p l;refine pj func209 ntmps209 results209 ?_;exact aZ;all_goals exact ai.refl _
theorem vj {α:Type}{enc:α→List D}(eB:∀x,(enc x).length=4)(p:α→Bool)(l:List α)(g:Nat)(caps:List D)(hl:l.length≤1000000000)(hc:∀x∈l,af prog g (.agg (enc x)::caps) (.v (.bool (p x)))):
 af prog 213 [.sl 4 (l.map enc),.clo g caps] (.v (.int .i64 (cv p l))):=by
 refine pj func213 ntmps213 results213 ?_;refine am ?_<;>intros;refine bL ae ak (fun m e h=>∃k:Nat,k≤l.length∧(∀x∈l.take k,p x=false)∧m=l.length - k∧e=[(8,.d (.v (.int .i64 k))),(7,.d (.v (.int .i64 l.length))),(4,.d (.v (.int .i64 0))),(1,.d (.clo g caps)),(0,.d (.sl 4 (l.map enc)))]∧h=[]) _ _ _ ⟨0,XD _,by simp,rfl,rfl,rfl⟩ ?_ ?_
 ·exact wf (x:=[]) (hh:=rfl) (he:=⟨rfl,rfl,rfl,rfl,rfl,trivial⟩)
 ·rintro m e h ⟨k,hk,cf,rfl,rfl,rfl⟩ CL mJ;by_cases hlt:k < l.length
  ·obtain⟨x,hx⟩:∃x,l[k]? =some x:=⟨_,Xk hlt⟩;have en:(k:Int) < (l.length:Int):=by omega
   have cM:=wi k (by omega);have bT:=eB x;have gU:(enc x).take 4=enc x:=XN (by omega);have jC:=hc x (Xl hx);cases hp:p x with
   |false=>
    rw[hp]at jC;refine am ?_<;>intros;refine mJ _ _ _ _ _ ?_ ⟨k+1,hlt,?_,rfl,rfl,rfl⟩ (wf (x:=[]) (hh:=rfl) (he:=⟨rfl,rfl,rfl,rfl,rfl,trivial⟩))
    ·omega
    ·intro y hy;rw[ag hx]at hy;rcases X2.1 hy with hy|hy
     ·exact cf y hy
     ·rw[Yc]at hy;rw[hy];exact hp
   |true=>
    rw[hp]at jC;have ld:cv p l=k:=fV hx hp cf;exact aZ;all_goals rw[ld]
    all_goals exact ai.refl _
  ·obtain rfl:k=l.length:=by omega
   rw[Xt]at cf;refine am ?_<;>intros;all_goals rw[fW cf]
   all_goals exact ai.refl _
theorem vl {α:Type}{enc:α→List D}(eB:∀x,(enc x).length=4)(p:α→Bool)(l:List α)(g:Nat)(caps:List D)(hl:l.length≤1000000000)(hc:∀x∈l,af prog g (.agg (enc x)::caps) (.v (.bool (p x)))):
 af prog 145 [.sl 4 (l.map enc),.clo g caps] (.v (.bool (l.any p))):=by
 have hi:=vj eB p l g caps hl hc;have im:=fK p l;refine pj func145 ntmps145 results145 ?_;exact aZ;all_goals exact ai.refl _
theorem yv {α:Type}{enc:α→List D}(eB:∀x,(enc x).length=2)(p:α→Bool)(l:List α)(g:Nat)(caps:List D)(hl:l.length≤1000000000)(hc:∀x∈l,af prog g (.agg (enc x)::caps) (.v (.bool (p x)))):
 af prog 217 [.sl 2 (l.map enc),.clo g caps] (.v (.int .i64 (cv p l))):=by
 refine pj func217 ntmps217 results217 ?_;refine am ?_<;>intros;refine bL ae ak (fun m e h=>∃k:Nat,k≤l.length∧(∀x∈l.take k,p x=false)∧m=l.length - k∧e=[(8,.d (.v (.int .i64 k))),(7,.d (.v (.int .i64 l.length))),(4,.d (.v (.int .i64 0))),(1,.d (.clo g caps)),(0,.d (.sl 2 (l.map enc)))]∧h=[]) _ _ _ ⟨0,XD _,by simp,rfl,rfl,rfl⟩ ?_ ?_
 ·exact wf (x:=[]) (hh:=rfl) (he:=⟨rfl,rfl,rfl,rfl,rfl,trivial⟩)
 ·rintro m e h ⟨k,hk,cf,rfl,rfl,rfl⟩ CL mJ;by_cases hlt:k < l.length
  ·obtain⟨x,hx⟩:∃x,l[k]? =some x:=⟨_,Xk hlt⟩;have en:(k:Int) < (l.length:Int):=by omega
   have cM:=wi k (by omega);have bT:=eB x;have gU:(enc x).take 2=enc x:=XN (by omega);have jC:=hc x (Xl hx);cases hp:p x with
   |false=>
    rw[hp]at jC;refine am ?_<;>intros;refine mJ _ _ _ _ _ ?_ ⟨k+1,hlt,?_,rfl,rfl,rfl⟩ (wf (x:=[]) (hh:=rfl) (he:=⟨rfl,rfl,rfl,rfl,rfl,trivial⟩))
    ·omega
    ·intro y hy;rw[ag hx]at hy;rcases X2.1 hy with hy|hy
     ·exact cf y hy
     ·rw[Yc]at hy;rw[hy];exact hp
   |true=>
    rw[hp]at jC;have ld:cv p l=k:=fV hx hp cf;exact aZ;all_goals rw[ld]
    all_goals exact ai.refl _
  ·obtain rfl:k=l.length:=by omega
   rw[Xt]at cf;refine am ?_<;>intros;all_goals rw[fW cf]
   all_goals exact ai.refl _
theorem Hs {α:Type}{enc:α→List D}(eB:∀x,(enc x).length=2)(p:α→Bool)(l:List α)(g:Nat)(caps:List D)(hl:l.length≤1000000000)(hc:∀x∈l,af prog g (.agg (enc x)::caps) (.v (.bool (p x)))):
 af prog 230 [.sl 2 (l.map enc),.clo g caps] (.v (.bool (l.any p))):=by
 have hi:=yv eB p l g caps hl hc;have im:=fK p l;refine pj func230 ntmps230 results230 ?_;exact aZ;all_goals exact ai.refl _
def yw:D→Value
 | .v x=>x
 |_=>undef
def Pj:D→Value
 | .v x=>x
 | .agg l=> .agg (l.map yw).toArray
 |_=>undef
def Ht:D→Value
 | .v x=>x
 | .agg l=> .agg (l.map yw).toArray
 | .tup l=> .tuple (l.map Pj).toArray
 |_=>undef
theorem qP {vs:List Value}{ds:List D}{f:D→Value}(hl:ds.length=vs.length)(h:∀(j:Nat) (d:D) (x:Value),ds[j]? =some d→vs[j]? =some x→x=f d):vs=ds.map f:=by
 apply Yj;intro j;rw[Xz];cases hd:ds[j]? with
 |none=>
  have:ds.length≤j:=by simpa using hd
  rw[XT (by omega)];rfl
 |some d=>
  have hlt:j < vs.length:=by rw[←hl];exact(Xn.1 hd).1
  rw[Xk hlt,h j d _ hd (Xk hlt)];rfl
theorem FK {M:Nat→Prop}{w:World}{d:D}{v:Value}(h:RepD M w d v)(hf:d.isV=true):v=yw d:=by
 cases d<;>simp[D.isV]at hf;cases h;rfl
theorem J4 {M:Nat→Prop}{w:World}{d:D}{v:Value}(h:RepD M w d v)(hf:d.flat=true):v=Ht d:=by
 cases h with
 |v=>rfl
 |agg cells vs hl h1 bA=>
  simp only[D.flat,XE]at hf;rw[qP (f:=yw) hl fun j d x hj hx=>FK (bA j d x hj hx) (hf d (Xl hj))];rfl
 |tup ds vs hl bA=>
  simp only[D.flat,XE]at hf;rw[qP (f:=Pj) hl fun j d x hj hx=>?_]
  ·rfl
  ·have h0:=bA j d x hj hx;have h1:=hf d (Xl hj);cases h0 with
   |v=>rfl
   |agg cells us hl' h1' oI=>
    simp only[XE]at h1;rw[qP (f:=yw) hl' fun j d x hj hx=>FK (oI j d x hj hx) (h1 d (Xl hj))];rfl
   |_=>simp at h1
 |_=>simp[D.flat]at hf
def D.aggOK:D→Bool
 | .agg l=>l.all D.one
 | .tup l=>l.all fun d=>match d with| .agg l=>l.all D.one|_=>true
 |_=>true
theorem FL {M:Nat→Prop}{w:World}(ds:List D)(hf:∀d∈ds,d.isV=true):∀(j:Nat) (d:D) (x:Value),ds[j]? =some d→(ds.map yw)[j]? =some x→RepD M w d x:=by
 intro j d x hj hx;rw[Xz,hj]at hx;cases hx;have:=hf d (Xl hj);cases d<;>simp[D.isV]at this;exact .v _
theorem zP {M:Nat→Prop}{w:World}{d:D}(hf:d.flat=true)(h1:d.aggOK=true):RepD M w d (Ht d):=by
 cases d with
 |v x=>exact .v x
 |agg l=>
  simp only[D.flat,XE]at hf;simp only[D.aggOK,XE]at h1;exact .agg l _ (by simp) h1 (FL l hf)
 |tup l=>
  simp only[D.flat,XE]at hf;simp only[D.aggOK,XE]at h1;refine .tup l _ (by simp) fun j d x hj hx=>?_;rw[Xz,hj]at hx;cases hx;have h2:=hf d (Xl hj);have h3:=h1 d (Xl hj);cases d with
  |v x=>exact .v x
  |agg l'=>
   simp only[XE]at h2 h3;exact .agg l' _ (by simp) h3 (FL l' h2)
  |_=>simp at h2
 |_=>simp[D.flat]at hf
theorem eQ {P:Program}{f:Nat}{ds:List D}{r:D}(hn:xg P f)(hf:∀d∈ds,d.flat=true)(hr:r.flat=true)(rR:r.aggOK=true)(h:∀w,Calls P f (ds.map Ht).toArray w fun e w'=>e= .returned (Ht r)∧dw w w'):af P f ds r:=by
 refine⟨hn,fun M w vs _ _ ft=>?_⟩;rw[qP (f:=Ht) ft.1 fun j d x hj hx=>J4 (ft.2 j d x hj hx) (hf d (Xl hj))];exact(h w).mono fun e w' ⟨he,hx⟩=>⟨Ht r,he,zP hr rR,hx⟩
theorem fy {M:Nat→Prop}{w:World}{d:D}{ds:List D}{vs:List Value}(h:dZ M w (d::ds) vs):∃v us,vs=v::us∧RepD M w d v∧dZ M w ds us:=by
 cases vs with
 |nil=>have:=h.1;simp at this
 |cons v us=>exact⟨v,us,rfl,h.2 0 d v rfl rfl,⟨by simpa using h.1,fun j d x hj hx=>h.2 (j+1) d x (by simpa using hj) (by simpa using hx)⟩⟩
theorem mh {M:Nat→Prop}{w:World}{vs:List Value}(h:dZ M w [] vs):vs=[]:=by
 cases vs with
 |nil=>rfl
 |cons v us=>have:=h.1;simp at this
theorem J5 {M:Nat→Prop}{w:World}{ds:List D}{v:Value}(h:RepD M w (.agg ds) v):∃vs:List Value,v= .agg vs.toArray∧dZ M w ds vs:=by
 cases h with
 |agg _ vs hl h1 bA=>exact⟨vs,rfl,hl,bA⟩
theorem so {M:Nat→Prop}{w:World}{x v:Value}(h:RepD M w (.v x) v):v=x:=by cases h;rfl
theorem NC {M:Nat→Prop}{w:World}{us:List Pfx}{v:Value}(h:RepD M w (.sl 2 (us.map aN)) v):∃ao cap,v= .slice ao us.length cap∧Sl (fun b=>¬M b) w 2 db ao cap us:=by
 generalize hr:us.map aN=rows at h;have hl:us.length=rows.length:=by rw[←hr];simp
 cases h with
 |nil _ ao cap hm=>
  have:us=[]:=X9 (by simpa using hl);subst this;exact⟨ao,cap,rfl,⟨XD _,hm,fun i hi=>absurd hi (YJ _)⟩⟩
 |sl _ _ b off cap f hM hb hc hm hr' h1 dy bA=>
  refine⟨_,cap,by rw[hl],⟨by omega,hm,fun i hi=>⟨b,off,[.int .i64 us[i].at_,.int .i64 us[i].len],rfl,hM,rfl,rfl,fun j hj=>?_⟩⟩⟩;have bY:rows[i]? =some (aN us[i]):=by rw[←hr,Xz,Xk hi];rfl
  have W3:=dy i j (by omega) hj;rw[W3];match j,hj with
  |0,_=>rw[so (bA i 0 _ _ bY rfl)];rfl
  |1,_=>rw[so (bA i 1 _ _ bY rfl)];rfl
theorem zQ {M:Nat→Prop}{w:World}{root:Pfx}{us:List Pfx}{v:Value}(h:RepD M w (.agg (Ea root us)) v):∃uo cap,v= .agg #[.int .i64 root.at_,.int .i64 root.len,.slice uo us.length cap]∧Sl (fun b=>¬M b) w 2 db uo cap us:=by
 obtain⟨vs,rfl,Dk⟩:=J5 h;obtain⟨a,vs,rfl,ha,Dk⟩:=fy Dk;obtain⟨b,vs,rfl,hb,Dk⟩:=fy Dk;obtain⟨c,vs,rfl,hc,Dk⟩:=fy Dk;rw[mh Dk,so ha,so hb];obtain⟨ao,cap,rfl,hs⟩:=NC hc;exact⟨ao,cap,rfl,hs⟩
section
open Go.Proofs
def fA (n lo hi:Int):Bool:=decide (lo≤n)&&decide (n≤hi)
theorem mT (n lo hi:Int)(w:World):
 Calls prog 75 #[.int .i64 n,.int .i64 lo,.int .i64 hi] w fun e w'=>e= .returned (.bool (fA n lo hi))∧w=w':=by
 by_cases h1:lo≤n
 ·by_cases h2:n≤hi
  ·have hr:fA n lo hi=true:=by simp[fA,h1,h2]
   replace hr:=Xj hr;go_enter func75,ntmps75
   go_wp2_with fail
   go_ret
   first|exact⟨di hr.out.symm,rfl⟩|exact⟨rfl,rfl⟩
  ·have hr:fA n lo hi=false:=by simp[fA,h2]
   replace hr:=Xj hr;go_enter func75,ntmps75
   go_wp2_with fail
   go_ret
   first|exact⟨di hr.out.symm,rfl⟩|exact⟨rfl,rfl⟩
 ·have hr:fA n lo hi=false:=by simp[fA,h1]
  replace hr:=Xj hr;go_enter func75,ntmps75
  go_wp2_with fail
  go_ret
  first|exact⟨di hr.out.symm,rfl⟩|exact⟨rfl,rfl⟩
end
section
open Go.Proofs
def eD (n:Int):Int:=2 ^ (16 - n).toNat
theorem eX {n:Int}(h0:0≤n):1≤eD n∧eD n≤65536:=by have:=u7 n h0;unfold eD;omega
theorem pU (n:Int)(w:World)(h0:0≤n)(h1:n≤16):
 Calls prog 240 #[.int .i64 n] w fun e w'=>e= .returned (.int .i64 (eD n))∧w=w':=by
 have hp:=u7 n h0;go_enter func240,ntmps240
 go_wp2
 go_ret
 exact⟨rfl,rfl⟩
theorem t8 (a l:Int)(w:World):
 Calls prog 239 #[.agg #[.int .i64 a,.int .i64 l]] w fun e w'=>e= .returned (.int .i64 (chk a l))∧dw w w':=by
 by_cases hl:0≤l∧l≤16
 ·have e1:fA l 0 16=true:=by simp[fA,hl]
  by_cases ha:0≤a∧a≤65535
  ·have e2:fA a 0 65535=true:=by simp[fA,ha]
   have hm:=u7 l hl.1;obtain⟨⟨g1,g2⟩,g3,g4⟩:=And.intro hl ha;clear hl ha;obtain⟨z1,z2⟩:=eX g1;have z3:¬eD l=0:=by omega
   have hc:=Xj (D9 g1 g2 g3 g4);go_enter func239,ntmps239
   go_wp2_with (first|(go_at_call 75;refine(mT _ _ _ _).mono ?_;rintro e w' ⟨rfl,rfl⟩))
   refine dW (by kernel_rfl) (by kernel_rfl) ?_;repeat(first|((first|refine jZ rfl rfl rfl (by with_reducible rfl) ?_|refine j0 rfl rfl rfl (by with_reducible rfl) ?_|refine j1 rfl rfl rfl (by with_reducible rfl) ?_);simp only[Act.put,Xq,Xv,Xx])|(apply dV;(first|exact bx rfl|exact bD rfl rfl rfl (by with_reducible rfl));intro wq cL R hR;(have ef:=(aJ cL).1;(try simp only[Xr,aa,Xw,Xs]at ef);go_simp;first|exact hR|((go_at_call 240;exact pR cL (pU _ _ g1 g2) hR)));simp only[Act.put,Xq,Xv,Xx]))
   refine wpQuiet_nil ?_;intro w1 cj;obtain⟨ck,cq⟩:=aJ cj;have ct:=bq cj;(try simp only[Xr,aa,Xw,Xs]at ck cq ct)
   go_wp2_with fail
   ·go_ret
    rename_i h;refine⟨ce ?_,?_⟩
    ·rw[hc.out,if_neg (by rw[Int.tmod_eq_emod_of_nonneg g3]at h;simpa[eD]using h)]
    ·refine Bel.bel (B:=_) ?_;(repeat(first|with_reducible assumption|with_reducible exact Bel.refl _|with_reducible refine Bel.alloc ?_ _|with_reducible refine Bel.drewN ?_ _|with_reducible refine Bel.drew ?_|(with_reducible refine Bel.setCell0 ?_ ?_ _;rotate_left;(first|omega|(simp;done)|(simp;omega)))|(with_reducible refine Bel.setCell ?_ (p:=_) ?_ _;rotate_left;(first|(simp;done)|omega|(simp;omega)))|refine Bel.call ?_ (by assumption)|(refine EX.bel ?_ (by assumption) ?_;rotate_left;(first|omega|(simp;omega)))))
   ·go_ret
    rename_i h;refine⟨ce ?_,?_⟩
    ·rw[hc.out,if_pos (by rw[Int.tmod_eq_emod_of_nonneg g3]at h;simpa[eD]using h)]
    ·refine Bel.bel (B:=_) ?_;(repeat(first|with_reducible assumption|with_reducible exact Bel.refl _|with_reducible refine Bel.alloc ?_ _|with_reducible refine Bel.drewN ?_ _|with_reducible refine Bel.drew ?_|(with_reducible refine Bel.setCell0 ?_ ?_ _;rotate_left;(first|omega|(simp;done)|(simp;omega)))|(with_reducible refine Bel.setCell ?_ (p:=_) ?_ _;rotate_left;(first|(simp;done)|omega|(simp;omega)))|refine Bel.call ?_ (by assumption)|(refine EX.bel ?_ (by assumption) ?_;rotate_left;(first|omega|(simp;omega)))))
  ·have e2:fA a 0 65535=false:=by simp[fA];omega
   have hc:=Xj (JS (a:=a) (l:=l) (by omega));clear hl ha;go_enter func239,ntmps239
   go_wp2_with (first|(go_at_call 75;refine(mT _ _ _ _).mono ?_;rintro e w' ⟨rfl,rfl⟩))
   go_ret
   refine⟨ce hc.out.symm,?_⟩;refine Bel.bel (B:=_) ?_;(repeat(first|with_reducible assumption|with_reducible exact Bel.refl _|with_reducible refine Bel.alloc ?_ _|with_reducible refine Bel.drewN ?_ _|with_reducible refine Bel.drew ?_|(with_reducible refine Bel.setCell0 ?_ ?_ _;rotate_left;(first|omega|(simp;done)|(simp;omega)))|(with_reducible refine Bel.setCell ?_ (p:=_) ?_ _;rotate_left;(first|(simp;done)|omega|(simp;omega)))|refine Bel.call ?_ (by assumption)|(refine EX.bel ?_ (by assumption) ?_;rotate_left;(first|omega|(simp;omega)))))
 ·have e1:fA l 0 16=false:=by simp[fA];omega
  have hc:=Xj (JS (a:=a) (l:=l) (by omega));clear hl;go_enter func239,ntmps239
  go_wp2_with (first|(go_at_call 75;refine(mT _ _ _ _).mono ?_;rintro e w' ⟨rfl,rfl⟩))
  go_ret
  refine⟨ce hc.out.symm,?_⟩;refine Bel.bel (B:=_) ?_;(repeat(first|with_reducible assumption|with_reducible exact Bel.refl _|with_reducible refine Bel.alloc ?_ _|with_reducible refine Bel.drewN ?_ _|with_reducible refine Bel.drew ?_|(with_reducible refine Bel.setCell0 ?_ ?_ _;rotate_left;(first|omega|(simp;done)|(simp;omega)))|(with_reducible refine Bel.setCell ?_ (p:=_) ?_ _;rotate_left;(first|(simp;done)|omega|(simp;omega)))|refine Bel.call ?_ (by assumption)|(refine EX.bel ?_ (by assumption) ?_;rotate_left;(first|omega|(simp;omega)))))
def kI (a l:Int):Int:=a+eD l - 1
def bE (a l:Int):Bool:=chk a l==0
def kJ (a l x:Int):Bool:=bE a l&&fA x a (kI a l)
def xu (a l b m:Int):Bool:=bE a l&&bE b m&&kJ b m a&&kJ b m (kI a l)
def np (a l b m:Int):Bool:=bE a l&&bE b m&&decide (a≤kI b m)&&decide (b≤kI a l)
theorem dK {a l:Int}(h:bE a l=true):0≤l∧l≤16∧0≤a∧a≤65535∧a % eD l=0:=by
 have h0:chk a l=0:=by simpa[bE]using h
 unfold chk at h0;split at h0
 ·omega
 ·rename_i h1;split at h0
  ·rename_i h2;exact⟨by omega,by omega,by omega,by omega,h2⟩
  ·omega
theorem dX (a l:Int)(w:World):
 Calls prog 189 #[.agg #[.int .i64 a,.int .i64 l]] w fun e w'=>e= .returned (.bool (bE a l))∧dw w w':=by
 go_enter func189,ntmps189
 go_wp2_with fail
 refine(t8 a l _).mono ?_;rintro e w1 ⟨rfl,cj⟩;obtain⟨ck,cq⟩:=aJ cj;have ct:=bq cj;(try simp only[Xr,aa,Xw,Xs]at ck cq ct)
 go_wp2_with fail
 go_ret
 refine⟨di rfl,Bel.bel (B:=_) ?_⟩;(repeat(first|with_reducible assumption|with_reducible exact Bel.refl _|with_reducible refine Bel.alloc ?_ _|with_reducible refine Bel.drewN ?_ _|with_reducible refine Bel.drew ?_|(with_reducible refine Bel.setCell0 ?_ ?_ _;rotate_left;(first|omega|(simp;done)|(simp;omega)))|(with_reducible refine Bel.setCell ?_ (p:=_) ?_ _;rotate_left;(first|(simp;done)|omega|(simp;omega)))|refine Bel.call ?_ (by assumption)|(refine EX.bel ?_ (by assumption) ?_;rotate_left;(first|omega|(simp;omega)))))
theorem jH (a l:Int)(w:World)(h:bE a l=true):
 Calls prog 190 #[.agg #[.int .i64 a,.int .i64 l]] w fun e w'=>e= .returned (.int .i64 (kI a l))∧dw w w':=by
 obtain⟨g1,g2,g3,g4,-⟩:=dK h;obtain⟨z1,z2⟩:=eX g1;clear h;go_enter func190,ntmps190
 go_wp2_with fail
 refine dW (by kernel_rfl) (by kernel_rfl) ?_;repeat(first|((first|refine jZ rfl rfl rfl (by with_reducible rfl) ?_|refine j0 rfl rfl rfl (by with_reducible rfl) ?_|refine j1 rfl rfl rfl (by with_reducible rfl) ?_);simp only[Act.put,Xq,Xv,Xx])|(apply dV;(first|exact bx rfl|exact bD rfl rfl rfl (by with_reducible rfl));intro wq cL R hR;(have ef:=(aJ cL).1;(try simp only[Xr,aa,Xw,Xs]at ef);go_simp;first|exact hR|((go_at_call 240;exact pR cL (pU _ _ g1 g2) hR)));simp only[Act.put,Xq,Xv,Xx]))
 refine wpQuiet_nil ?_;intro w1 cj;obtain⟨ck,cq⟩:=aJ cj;have ct:=bq cj;(try simp only[Xr,aa,Xw,Xs]at ck cq ct)
 go_wp2_with fail
 go_ret
 refine⟨ce (by simp only[IntKind.wrap_i64];unfold kI;omega),Bel.bel (B:=_) ?_⟩;(repeat(first|with_reducible assumption|with_reducible exact Bel.refl _|with_reducible refine Bel.alloc ?_ _|with_reducible refine Bel.drewN ?_ _|with_reducible refine Bel.drew ?_|(with_reducible refine Bel.setCell0 ?_ ?_ _;rotate_left;(first|omega|(simp;done)|(simp;omega)))|(with_reducible refine Bel.setCell ?_ (p:=_) ?_ _;rotate_left;(first|(simp;done)|omega|(simp;omega)))|refine Bel.call ?_ (by assumption)|(refine EX.bel ?_ (by assumption) ?_;rotate_left;(first|omega|(simp;omega)))))
theorem n9 (a l x:Int)(w:World):
 Calls prog 224 #[.agg #[.int .i64 a,.int .i64 l],.int .i64 x] w fun e w'=>e= .returned (.bool (kJ a l x))∧dw w w':=by
 by_cases h:bE a l=true
 ·have hv:kJ a l x=fA x a (kI a l):=by simp[kJ,h]
  rw[hv];go_enter func224,ntmps224
  go_wp2_with fail
  refine dW (by kernel_rfl) (by kernel_rfl) ?_;repeat(first|((first|refine jZ rfl rfl rfl (by with_reducible rfl) ?_|refine j0 rfl rfl rfl (by with_reducible rfl) ?_|refine j1 rfl rfl rfl (by with_reducible rfl) ?_);simp only[Act.put,Xq,Xv,Xx])|(apply dV;(first|exact bx rfl|exact bD rfl rfl rfl (by with_reducible rfl));intro wq cL R hR;(have ef:=(aJ cL).1;(try simp only[Xr,aa,Xw,Xs]at ef);go_simp;first|exact hR|(first|(go_at_call 189;exact jF cL (dX _ _ _) hR)|(go_at_call 190;exact jF cL (jH _ _ _ h) hR)|(go_at_call 75;exact pR cL (mT _ _ _ _) hR)));simp only[Act.put,Xq,Xv,Xx]))
  refine wpQuiet_nil ?_;intro w1 cj;obtain⟨ck,cq⟩:=aJ cj;have ct:=bq cj;(try simp only[Xr,aa,Xw,Xs]at ck cq ct)
  go_wp2_with fail
  go_ret
  refine⟨di rfl,Bel.bel (B:=_) ?_⟩;(repeat(first|with_reducible assumption|with_reducible exact Bel.refl _|with_reducible refine Bel.alloc ?_ _|with_reducible refine Bel.drewN ?_ _|with_reducible refine Bel.drew ?_|(with_reducible refine Bel.setCell0 ?_ ?_ _;rotate_left;(first|omega|(simp;done)|(simp;omega)))|(with_reducible refine Bel.setCell ?_ (p:=_) ?_ _;rotate_left;(first|(simp;done)|omega|(simp;omega)))|refine Bel.call ?_ (by assumption)|(refine EX.bel ?_ (by assumption) ?_;rotate_left;(first|omega|(simp;omega)))))
 ·have h:=(ZI _).mp h;have hv:kJ a l x=false:=by simp[kJ,h]
  rw[hv];go_enter func224,ntmps224
  go_wp2_with fail
  refine dW (by kernel_rfl) (by kernel_rfl) ?_;repeat(first|((first|refine jZ rfl rfl rfl (by with_reducible rfl) ?_|refine j0 rfl rfl rfl (by with_reducible rfl) ?_|refine j1 rfl rfl rfl (by with_reducible rfl) ?_);simp only[Act.put,Xq,Xv,Xx])|(apply dV;(first|exact bx rfl|exact bD rfl rfl rfl (by with_reducible rfl));intro wq cL R hR;(have ef:=(aJ cL).1;(try simp only[Xr,aa,Xw,Xs]at ef);go_simp;first|exact hR|(first|(go_at_call 189;exact jF cL (dX _ _ _) hR)));simp only[Act.put,Xq,Xv,Xx]))
  refine wpQuiet_nil ?_;intro w1 cj;obtain⟨ck,cq⟩:=aJ cj;have ct:=bq cj;(try simp only[Xr,aa,Xw,Xs]at ck cq ct)
  go_wp2_with fail
  go_ret
  refine⟨di rfl,Bel.bel (B:=_) ?_⟩;(repeat(first|with_reducible assumption|with_reducible exact Bel.refl _|with_reducible refine Bel.alloc ?_ _|with_reducible refine Bel.drewN ?_ _|with_reducible refine Bel.drew ?_|(with_reducible refine Bel.setCell0 ?_ ?_ _;rotate_left;(first|omega|(simp;done)|(simp;omega)))|(with_reducible refine Bel.setCell ?_ (p:=_) ?_ _;rotate_left;(first|(simp;done)|omega|(simp;omega)))|refine Bel.call ?_ (by assumption)|(refine EX.bel ?_ (by assumption) ?_;rotate_left;(first|omega|(simp;omega)))))
theorem qQ (a l b m:Int)(w:World):
 Calls prog 169 #[.agg #[.int .i64 a,.int .i64 l],.agg #[.int .i64 b,.int .i64 m]] w fun e w'=>e= .returned (.bool (xu a l b m))∧dw w w':=by
 cases hA:bE a l
 case false=>
  go_enter func169,ntmps169
  go_wp2_with fail
  refine dW (by kernel_rfl) (by kernel_rfl) ?_;repeat(first|((first|refine jZ rfl rfl rfl (by with_reducible rfl) ?_|refine j0 rfl rfl rfl (by with_reducible rfl) ?_|refine j1 rfl rfl rfl (by with_reducible rfl) ?_);simp only[Act.put,Xq,Xv,Xx])|(apply dV;(first|exact bx rfl|exact bD rfl rfl rfl (by with_reducible rfl));intro wq cL R hR;(have ef:=(aJ cL).1;(try simp only[Xr,aa,Xw,Xs]at ef);go_simp;first|exact hR|(first|(go_at_call 189;exact jF cL (dX _ _ _) hR)));simp only[Act.put,Xq,Xv,Xx]))
  refine wpQuiet_nil ?_;intro w1 cj;obtain⟨ck,cq⟩:=aJ cj;have ct:=bq cj;(try simp only[Xr,aa,Xw,Xs]at ck cq ct)
  go_wp2_with fail
  go_ret
  refine⟨di (by simp[xu,hA]),Bel.bel (B:=_) ?_⟩;(repeat(first|with_reducible assumption|with_reducible exact Bel.refl _|with_reducible refine Bel.alloc ?_ _|with_reducible refine Bel.drewN ?_ _|with_reducible refine Bel.drew ?_|(with_reducible refine Bel.setCell0 ?_ ?_ _;rotate_left;(first|omega|(simp;done)|(simp;omega)))|(with_reducible refine Bel.setCell ?_ (p:=_) ?_ _;rotate_left;(first|(simp;done)|omega|(simp;omega)))|refine Bel.call ?_ (by assumption)|(refine EX.bel ?_ (by assumption) ?_;rotate_left;(first|omega|(simp;omega)))))
 case true=>
  cases hB:bE b m
  case false=>
   go_enter func169,ntmps169
   go_wp2_with fail
   refine dW (by kernel_rfl) (by kernel_rfl) ?_;repeat(first|((first|refine jZ rfl rfl rfl (by with_reducible rfl) ?_|refine j0 rfl rfl rfl (by with_reducible rfl) ?_|refine j1 rfl rfl rfl (by with_reducible rfl) ?_);simp only[Act.put,Xq,Xv,Xx])|(apply dV;(first|exact bx rfl|exact bD rfl rfl rfl (by with_reducible rfl));intro wq cL R hR;(have ef:=(aJ cL).1;(try simp only[Xr,aa,Xw,Xs]at ef);go_simp;first|exact hR|(first|(go_at_call 189;exact jF cL (dX _ _ _) hR)));simp only[Act.put,Xq,Xv,Xx]))
   refine wpQuiet_nil ?_;intro w1 cj;obtain⟨ck,cq⟩:=aJ cj;have ct:=bq cj;(try simp only[Xr,aa,Xw,Xs]at ck cq ct)
   go_wp2_with fail
   go_ret
   refine⟨di (by simp[xu,hA,hB]),Bel.bel (B:=_) ?_⟩;(repeat(first|with_reducible assumption|with_reducible exact Bel.refl _|with_reducible refine Bel.alloc ?_ _|with_reducible refine Bel.drewN ?_ _|with_reducible refine Bel.drew ?_|(with_reducible refine Bel.setCell0 ?_ ?_ _;rotate_left;(first|omega|(simp;done)|(simp;omega)))|(with_reducible refine Bel.setCell ?_ (p:=_) ?_ _;rotate_left;(first|(simp;done)|omega|(simp;omega)))|refine Bel.call ?_ (by assumption)|(refine EX.bel ?_ (by assumption) ?_;rotate_left;(first|omega|(simp;omega)))))
  case true=>
   cases hC:kJ b m a
   case false=>
    go_enter func169,ntmps169
    go_wp2_with fail
    refine dW (by kernel_rfl) (by kernel_rfl) ?_;repeat(first|((first|refine jZ rfl rfl rfl (by with_reducible rfl) ?_|refine j0 rfl rfl rfl (by with_reducible rfl) ?_|refine j1 rfl rfl rfl (by with_reducible rfl) ?_);simp only[Act.put,Xq,Xv,Xx])|(apply dV;(first|exact bx rfl|exact bD rfl rfl rfl (by with_reducible rfl));intro wq cL R hR;(have ef:=(aJ cL).1;(try simp only[Xr,aa,Xw,Xs]at ef);go_simp;first|exact hR|(first|(go_at_call 189;exact jF cL (dX _ _ _) hR)|(go_at_call 224;exact jF cL (n9 _ _ _ _) hR)|(go_at_call 190;exact jF cL (jH _ _ _ hA) hR)));simp only[Act.put,Xq,Xv,Xx]))
    refine wpQuiet_nil ?_;intro w1 cj;obtain⟨ck,cq⟩:=aJ cj;have ct:=bq cj;(try simp only[Xr,aa,Xw,Xs]at ck cq ct)
    go_wp2_with fail
    go_ret
    refine⟨di (by simp[xu,hA,hB,hC]),Bel.bel (B:=_) ?_⟩;(repeat(first|with_reducible assumption|with_reducible exact Bel.refl _|with_reducible refine Bel.alloc ?_ _|with_reducible refine Bel.drewN ?_ _|with_reducible refine Bel.drew ?_|(with_reducible refine Bel.setCell0 ?_ ?_ _;rotate_left;(first|omega|(simp;done)|(simp;omega)))|(with_reducible refine Bel.setCell ?_ (p:=_) ?_ _;rotate_left;(first|(simp;done)|omega|(simp;omega)))|refine Bel.call ?_ (by assumption)|(refine EX.bel ?_ (by assumption) ?_;rotate_left;(first|omega|(simp;omega)))))
   case true=>
    go_enter func169,ntmps169
    go_wp2_with fail
    refine dW (by kernel_rfl) (by kernel_rfl) ?_;repeat(first|((first|refine jZ rfl rfl rfl (by with_reducible rfl) ?_|refine j0 rfl rfl rfl (by with_reducible rfl) ?_|refine j1 rfl rfl rfl (by with_reducible rfl) ?_);simp only[Act.put,Xq,Xv,Xx])|(apply dV;(first|exact bx rfl|exact bD rfl rfl rfl (by with_reducible rfl));intro wq cL R hR;(have ef:=(aJ cL).1;(try simp only[Xr,aa,Xw,Xs]at ef);go_simp;first|exact hR|(first|(go_at_call 189;exact jF cL (dX _ _ _) hR)|(go_at_call 224;exact jF cL (n9 _ _ _ _) hR)|(go_at_call 190;exact jF cL (jH _ _ _ hA) hR)));simp only[Act.put,Xq,Xv,Xx]))
    refine wpQuiet_nil ?_;intro w1 cj;obtain⟨ck,cq⟩:=aJ cj;have ct:=bq cj;(try simp only[Xr,aa,Xw,Xs]at ck cq ct)
    go_wp2_with fail
    go_ret
    refine⟨di (by simp[xu,hA,hB,hC]),Bel.bel (B:=_) ?_⟩;(repeat(first|with_reducible assumption|with_reducible exact Bel.refl _|with_reducible refine Bel.alloc ?_ _|with_reducible refine Bel.drewN ?_ _|with_reducible refine Bel.drew ?_|(with_reducible refine Bel.setCell0 ?_ ?_ _;rotate_left;(first|omega|(simp;done)|(simp;omega)))|(with_reducible refine Bel.setCell ?_ (p:=_) ?_ _;rotate_left;(first|(simp;done)|omega|(simp;omega)))|refine Bel.call ?_ (by assumption)|(refine EX.bel ?_ (by assumption) ?_;rotate_left;(first|omega|(simp;omega)))))
theorem qR (a l b m:Int)(w:World):
 Calls prog 106 #[.agg #[.int .i64 a,.int .i64 l],.agg #[.int .i64 b,.int .i64 m]] w fun e w'=>e= .returned (.bool (np a l b m))∧dw w w':=by
 cases hA:bE a l
 case false=>
  go_enter func106,ntmps106
  go_wp2_with fail
  refine dW (by kernel_rfl) (by kernel_rfl) ?_;repeat(first|((first|refine jZ rfl rfl rfl (by with_reducible rfl) ?_|refine j0 rfl rfl rfl (by with_reducible rfl) ?_|refine j1 rfl rfl rfl (by with_reducible rfl) ?_);simp only[Act.put,Xq,Xv,Xx])|(apply dV;(first|exact bx rfl|exact bD rfl rfl rfl (by with_reducible rfl));intro wq cL R hR;(have ef:=(aJ cL).1;(try simp only[Xr,aa,Xw,Xs]at ef);go_simp;first|exact hR|(first|(go_at_call 189;exact jF cL (dX _ _ _) hR)));simp only[Act.put,Xq,Xv,Xx]))
  refine wpQuiet_nil ?_;intro w1 cj;obtain⟨ck,cq⟩:=aJ cj;have ct:=bq cj;(try simp only[Xr,aa,Xw,Xs]at ck cq ct)
  go_wp2_with fail
  go_ret
  refine⟨di (by simp[np,hA]),Bel.bel (B:=_) ?_⟩;(repeat(first|with_reducible assumption|with_reducible exact Bel.refl _|with_reducible refine Bel.alloc ?_ _|with_reducible refine Bel.drewN ?_ _|with_reducible refine Bel.drew ?_|(with_reducible refine Bel.setCell0 ?_ ?_ _;rotate_left;(first|omega|(simp;done)|(simp;omega)))|(with_reducible refine Bel.setCell ?_ (p:=_) ?_ _;rotate_left;(first|(simp;done)|omega|(simp;omega)))|refine Bel.call ?_ (by assumption)|(refine EX.bel ?_ (by assumption) ?_;rotate_left;(first|omega|(simp;omega)))))
 case true=>
  cases hB:bE b m
  case false=>
   go_enter func106,ntmps106
   go_wp2_with fail
   refine dW (by kernel_rfl) (by kernel_rfl) ?_;repeat(first|((first|refine jZ rfl rfl rfl (by with_reducible rfl) ?_|refine j0 rfl rfl rfl (by with_reducible rfl) ?_|refine j1 rfl rfl rfl (by with_reducible rfl) ?_);simp only[Act.put,Xq,Xv,Xx])|(apply dV;(first|exact bx rfl|exact bD rfl rfl rfl (by with_reducible rfl));intro wq cL R hR;(have ef:=(aJ cL).1;(try simp only[Xr,aa,Xw,Xs]at ef);go_simp;first|exact hR|(first|(go_at_call 189;exact jF cL (dX _ _ _) hR)));simp only[Act.put,Xq,Xv,Xx]))
   refine wpQuiet_nil ?_;intro w1 cj;obtain⟨ck,cq⟩:=aJ cj;have ct:=bq cj;(try simp only[Xr,aa,Xw,Xs]at ck cq ct)
   go_wp2_with fail
   go_ret
   refine⟨di (by simp[np,hA,hB]),Bel.bel (B:=_) ?_⟩;(repeat(first|with_reducible assumption|with_reducible exact Bel.refl _|with_reducible refine Bel.alloc ?_ _|with_reducible refine Bel.drewN ?_ _|with_reducible refine Bel.drew ?_|(with_reducible refine Bel.setCell0 ?_ ?_ _;rotate_left;(first|omega|(simp;done)|(simp;omega)))|(with_reducible refine Bel.setCell ?_ (p:=_) ?_ _;rotate_left;(first|(simp;done)|omega|(simp;omega)))|refine Bel.call ?_ (by assumption)|(refine EX.bel ?_ (by assumption) ?_;rotate_left;(first|omega|(simp;omega)))))
  case true=>
   cases hC:decide (a≤kI b m)
   case false=>
    go_enter func106,ntmps106
    go_wp2_with fail
    refine dW (by kernel_rfl) (by kernel_rfl) ?_;repeat(first|((first|refine jZ rfl rfl rfl (by with_reducible rfl) ?_|refine j0 rfl rfl rfl (by with_reducible rfl) ?_|refine j1 rfl rfl rfl (by with_reducible rfl) ?_);simp only[Act.put,Xq,Xv,Xx])|(apply dV;(first|exact bx rfl|exact bD rfl rfl rfl (by with_reducible rfl));intro wq cL R hR;(have ef:=(aJ cL).1;(try simp only[Xr,aa,Xw,Xs]at ef);go_simp;first|exact hR|(first|(go_at_call 189;exact jF cL (dX _ _ _) hR)|(go_at_call 190;exact jF cL (jH _ _ _ (by assumption)) hR)));simp only[Act.put,Xq,Xv,Xx]))
    refine wpQuiet_nil ?_;intro w1 cj;obtain⟨ck,cq⟩:=aJ cj;have ct:=bq cj;(try simp only[Xr,aa,Xw,Xs]at ck cq ct)
    go_wp2_with fail
    go_ret
    refine⟨di (by simp[np,hA,hB,hC]),Bel.bel (B:=_) ?_⟩;(repeat(first|with_reducible assumption|with_reducible exact Bel.refl _|with_reducible refine Bel.alloc ?_ _|with_reducible refine Bel.drewN ?_ _|with_reducible refine Bel.drew ?_|(with_reducible refine Bel.setCell0 ?_ ?_ _;rotate_left;(first|omega|(simp;done)|(simp;omega)))|(with_reducible refine Bel.setCell ?_ (p:=_) ?_ _;rotate_left;(first|(simp;done)|omega|(simp;omega)))|refine Bel.call ?_ (by assumption)|(refine EX.bel ?_ (by assumption) ?_;rotate_left;(first|omega|(simp;omega)))))
   case true=>
    go_enter func106,ntmps106
    go_wp2_with fail
    refine dW (by kernel_rfl) (by kernel_rfl) ?_;repeat(first|((first|refine jZ rfl rfl rfl (by with_reducible rfl) ?_|refine j0 rfl rfl rfl (by with_reducible rfl) ?_|refine j1 rfl rfl rfl (by with_reducible rfl) ?_);simp only[Act.put,Xq,Xv,Xx])|(apply dV;(first|exact bx rfl|exact bD rfl rfl rfl (by with_reducible rfl));intro wq cL R hR;(have ef:=(aJ cL).1;(try simp only[Xr,aa,Xw,Xs]at ef);go_simp;first|exact hR|(first|(go_at_call 189;exact jF cL (dX _ _ _) hR)|(go_at_call 190;exact jF cL (jH _ _ _ (by assumption)) hR)));simp only[Act.put,Xq,Xv,Xx]))
    refine wpQuiet_nil ?_;intro w1 cj;obtain⟨ck,cq⟩:=aJ cj;have ct:=bq cj;(try simp only[Xr,aa,Xw,Xs]at ck cq ct)
    go_wp2_with fail
    go_ret
    refine⟨di (by simp[np,hA,hB,hC]),Bel.bel (B:=_) ?_⟩;(repeat(first|with_reducible assumption|with_reducible exact Bel.refl _|with_reducible refine Bel.alloc ?_ _|with_reducible refine Bel.drewN ?_ _|with_reducible refine Bel.drew ?_|(with_reducible refine Bel.setCell0 ?_ ?_ _;rotate_left;(first|omega|(simp;done)|(simp;omega)))|(with_reducible refine Bel.setCell ?_ (p:=_) ?_ _;rotate_left;(first|(simp;done)|omega|(simp;omega)))|refine Bel.call ?_ (by assumption)|(refine EX.bel ?_ (by assumption) ?_;rotate_left;(first|omega|(simp;omega)))))
end
section
open Go.Proofs
theorem gH {w:World}{b off:Nat}{c:Value}{cs:List Value}(h:w.cell? ⟨b,off,none⟩=some c)(hs:lv w b (off+1) cs):lv w b off (c::cs):=by
 intro i hi;match i with
 |0=>simpa using h
 |i+1=>have:=hs i (by simpa using hi);simpa[ZF,Nat.add_comm 1 i]using this
theorem oa {w:World}{b off:Nat}:lv w b off []:=fun i hi=>absurd hi (by simp)
theorem sq {w:World}{b:Nat}(a l:Int)(v:Bool)(hv:bE a l=v)(h0:w.cell? ⟨b,0,none⟩=some (.int .i64 a))(h1:w.cell? ⟨b,1,none⟩=some (.int .i64 l)):
 Calls prog 48 #[.slice (some ⟨b,0,none⟩) 1 1] w fun e w'=>e= .returned (.bool v)∧dw w w':=by
 have h:Sl (fun _=>True) w 2 db (some ⟨b,0,none⟩) 1 [(⟨a,l⟩:Pfx)]:=by
  refine⟨by simp,by omega,fun i hi=>?_⟩;match i with
  |0=>exact⟨b,0,_,rfl,trivial,rfl,rfl,gH h0 (gH h1 oa)⟩
 refine(yk h).mono fun e w' hh=>⟨hh.1.trans (di ?_),hh.2⟩;rw[←hv];simp[bE,Pfx.chk]
theorem Eg {w:World}{b:Nat}(a l c m:Int)(v:Bool)(hv:(bE a l&&bE c m)=v)(h0:w.cell? ⟨b,0,none⟩=some (.int .i64 a))(h1:w.cell? ⟨b,1,none⟩=some (.int .i64 l))
 (h2:w.cell? ⟨b,2,none⟩=some (.int .i64 c)) (h3:w.cell? ⟨b,3,none⟩=some (.int .i64 m)):
 Calls prog 48 #[.slice (some ⟨b,0,none⟩) 2 2] w fun e w'=>e= .returned (.bool v)∧dw w w':=by
 have h:Sl (fun _=>True) w 2 db (some ⟨b,0,none⟩) 2 [(⟨a,l⟩:Pfx),⟨c,m⟩]:=by
  refine⟨by simp,by omega,fun i hi=>?_⟩;match i with
  |0=>exact⟨b,0,_,rfl,trivial,rfl,rfl,gH h0 (gH h1 oa)⟩
  |1=>exact⟨b,0,_,rfl,trivial,rfl,rfl,gH h2 (gH h3 oa)⟩
 refine(yk h).mono fun e w' hh=>⟨hh.1.trans (di ?_),hh.2⟩;rw[←hv];simp[bE,Pfx.chk]
theorem Hu (x y:BitVec 64):(x&&& ~~~y).toNat=x.toNat - (x&&& y).toNat:=by
 have h1:(x&&& ~~~y)&&& (x&&& y)=0#64:=by
  ext i hi
  simp only[BitVec.getElem_and,BitVec.getElem_not,BitVec.getElem_zero];cases x[i]<;>cases y[i]<;>rfl
 have h2:(x&&& ~~~y)+(x&&& y)=x:=by
  rw[BitVec.add_eq_or_of_and_eq_zero _ _ h1];ext i hi
  simp only[BitVec.getElem_and,BitVec.getElem_not,BitVec.getElem_or];cases x[i]<;>cases y[i]<;>rfl
 have h4:=BitVec.toNat_add_of_and_eq_zero h1;rw[h2]at h4;omega
theorem vm (a l:Int)(h0:0≤a)(h1:a≤65535)(h2:0≤l):bits .andNot .i64 a (D8 l)=a - a % eD l:=by
 obtain⟨n,rfl⟩:=Int.eq_ofNat_of_zero_le h0;have hm:=pS l h2;rw[zK]at hm ⊢;show IntKind.i64.wrap ((BitVec.ofInt 64 (n:Int)&&& ~~~ BitVec.ofInt 64 _).toNat:Int)=_;rw[Hu,BitVec.toNat_and,kB n (by omega),kB _ (by omega),U',IntKind.wrap_i64];have:=Nat.mod_le n (2 ^ (16 - l).toNat);unfold eD;have h9:((n:Int) % 2 ^ (16 - l).toNat)=((n % 2 ^ (16 - l).toNat:Nat):Int):=by simp
 omega
def tv (a l:Int):Int:=if bE a l=true then eD l else 0
theorem BT (a l:Int)(w:World):
 Calls prog 176 #[.agg #[.int .i64 a,.int .i64 l]] w fun e w'=>e= .returned (.int .i64 (tv a l))∧dw w w':=by
 cases hA:bE a l
 case false=>
  have hs:tv a l=0:=by simp[tv,hA]
  rw[hs];have hv:=Xj hA;go_enter func176,ntmps176
  go_wp2_with (first|(go_at_call 48;refine(sq a l _ hv.out ?_ ?_).mono ?_;go_simp;go_simp;rintro e w1 ⟨rfl,cj⟩))
  go_ret
  refine⟨rfl,Bel.bel (B:=_) ?_⟩;(repeat(first|with_reducible assumption|with_reducible exact Bel.refl _|with_reducible refine Bel.alloc ?_ _|with_reducible refine Bel.drewN ?_ _|with_reducible refine Bel.drew ?_|(with_reducible refine Bel.setCell0 ?_ ?_ _;rotate_left;(first|omega|(simp;done)|(simp;omega)))|(with_reducible refine Bel.setCell ?_ (p:=_) ?_ _;rotate_left;(first|(simp;done)|omega|(simp;omega)))|refine Bel.call ?_ (by assumption)|(refine EX.bel ?_ (by assumption) ?_;rotate_left;(first|omega|(simp;omega)))))
 case true=>
  have hs:tv a l=D8 l+1:=by simp[tv,hA,D8,eD]
  rw[hs];have hv:=Xj hA;obtain⟨g1,g2,g3,g4,-⟩:=dK hA;obtain⟨z1,z2⟩:=pS l g1;go_enter func176,ntmps176
  go_wp2_with (first|(go_at_call 48;refine(sq a l _ hv.out ?_ ?_).mono ?_;go_simp;go_simp;rintro e w1 ⟨rfl,cj⟩;obtain⟨ck,cq⟩:=aJ cj;simp only[Xr]at ck cq)|(go_at_call 49;refine(nZ _ _ g1 g2).mono ?_;rintro e w2 ⟨rfl,rfl⟩))
  go_ret
  refine⟨rfl,Bel.bel (B:=_) ?_⟩;(repeat(first|with_reducible assumption|with_reducible exact Bel.refl _|with_reducible refine Bel.alloc ?_ _|with_reducible refine Bel.drewN ?_ _|with_reducible refine Bel.drew ?_|(with_reducible refine Bel.setCell0 ?_ ?_ _;rotate_left;(first|omega|(simp;done)|(simp;omega)))|(with_reducible refine Bel.setCell ?_ (p:=_) ?_ _;rotate_left;(first|(simp;done)|omega|(simp;omega)))|refine Bel.call ?_ (by assumption)|(refine EX.bel ?_ (by assumption) ?_;rotate_left;(first|omega|(simp;omega)))))
end
section
variable {P:Program}{ops:Array Oper}{Q:Exit→Act→World→Prop}
def GO (P:Program)(ops:Array Oper)(Q:Exit→Act→World→Prop):Nat→Array Bool→Act→World→Prop
 |0,listed,a,W=>Region.ready .any ops listed=[]∧∀w,dw W w→Q .normal a w
 |fuel+1,listed,a,W=>∀w,dw W w→(Region.ready .any ops listed=[]→Q .normal a w)∧
  ∀i∈Region.ready .any ops listed,wpOp P ops Q i (fun a' w'=>dw w w'∧GO P ops Q fuel (listed.setIfInBounds i true) a' w') a w
theorem GO.world:∀{fuel:Nat}{listed:Array Bool}{a:Act}{W W':World},dw W W'→GO P ops Q fuel listed a W→GO P ops Q fuel listed a W'
 |0,_,_,_,_,hx,h=>⟨h.1,fun w hw=>h.2 w (aj hx hw)⟩
 |_+1,_,_,_,_,hx,h=>fun w hw=>h w (aj hx hw)
theorem GO.any:∀{fuel:Nat}{listed:Array Bool}{a:Act}{W:World},GO P ops Q fuel listed a W→wpAny P .any ops Q fuel listed a W
 |0,_,_,_,h=>⟨h.1,h.2 _ (Below.refl _ _)⟩
 |_+1,_,_,W,h=>⟨(h W (Below.refl _ _)).1,fun i hi=>wpOp_mono (fun _ _ h'=>GO.any h'.2) ((h W (Below.refl _ _)).2 i hi)⟩
def QY (P:Program)(ops:Array Oper)(W:World)(o:Oper)(v:Value)(a:Act):Prop:=
 (Region.wanted o (yielded ops a.tmps)=true∧∀w,dw W w→o.quietAt P a (dw w) w v)∨
 (Region.wanted o (yielded ops a.tmps)=false∧v=undef)
theorem QY.world {W W':World}{o:Oper}{v:Value}{a:Act}(hx:dw W W')(h:QY P ops W o v a):QY P ops W' o v a:=
 h.imp (fun⟨h1,h2⟩=>⟨h1,fun w hw=>h2 w (aj hx hw)⟩) id
theorem QY.of_same {W:World}{o:Oper}{v:Value}{a a':Act}(hy:QY P ops W o v a)(he:execOp a'.eval o=execOp a.eval o)
 (hw:Region.wanted o (yielded ops a'.tmps)=Region.wanted o (yielded ops a.tmps)):QY P ops W o v a':=by
 unfold QY Oper.quietAt at*;rw[he,hw];exact hy
theorem QY.wpOp {W:World}{i:Nat}{o:Oper}{v:Value}{a:Act}(hi:ops[i]? =some o)(hy:QY P ops W o v a){K:Act→World→Prop}{w:World}(hw:dw W w)(h:∀w',dw w w'→K (a.put o.dst v) w'):wpOp P ops Q i K a w:=by
 unfold Go.wpOp;simp only[hi];rcases hy with⟨Az,hv⟩|⟨Az,rfl⟩
 ·simp only[Az,if_true];left;exact Oper.wp_of_quiet (C:=dw w) (K:=fun a'=>a'=a.put o.dst v) (Below.refl _ _) (fun a' w' hw' ha=>ha ▸ h w' hw') ⟨v,fun w'' hw''=>by
   have:=hv w'' (aj hw hw'');unfold Oper.quietAt at*;generalize (execOp a.eval o).run P w''=r at*;cases r with
   |ok n u=>cases n<;>simp only[Oper.quietUpon]at this ⊢<;>first|exact this|exact⟨this.1,this.2.mono fun _ _ ⟨e1,e2⟩=>⟨e1,aj hw'' e2⟩⟩
   |halt x u=>simp only[Oper.quietUpon]at this,rfl⟩
 ·simp only[Az,YB,if_false];exact h w (Below.refl _ _)
theorem Hv {W:World}{j:Nat}{oi oj:Oper}{v:Value}(hj:ops[j]? =some oj)(GE:oi.apart ops oj=true)
 (DM:∀cs b,oi.op≠ .select cs b) (PA:∀cs b,oj.op≠ .select cs b)
 (hQ:∀c a w,Q (.panic c) (a.put oi.dst v) w→Q (.panic c) a w) {K:Act→World→Prop}{a:Act}{w:World}
 (hy:QY P ops W oi v a) (h:wpOp P ops Q j K (a.put oi.dst v) w):
 wpOp P ops Q j (fun a' w'=>QY P ops W oi v a'∧K (a'.put oi.dst v) w') a w:=by
 obtain⟨h1,h2,h3⟩:=Oper.apart_spec GE;have keep:∀(a:Act),QY P ops W oi v a→∀u,QY P ops W oi v (a.put oj.dst u):=fun a hy u=>
  hy.of_same (execOp_put oi DM a oj.dst u h3) (wanted_put oi a oj.dst u h3)
 have keepD:∀d,QY P ops W oi v {a with defers:=d::a.defers}:=fun d=>hy.of_same rfl rfl;unfold wpOp at*;simp only[hj]at*;rw[wanted_put oj a oi.dst v h1]at h;split
 ·rename_i hw;simp only[hw,if_true]at h;rcases h with h|⟨tU,Dr⟩
  case inr=>exact .inr ⟨by unfold Oper.asks at*;rw[execOp_put oj PA a oi.dst v h1]at tU;exact tU,Dr⟩
  refine .inl ?_;unfold Oper.wp at*;rw[execOp_put oj PA a oi.dst v h1]at h;generalize (execOp a.eval oj).run P w=r at*;cases r with
  |ok n w'=>
   cases n<;>simp only[Oper.upon]at h ⊢
   case value u=>exact⟨keep a hy u,by rw[←Act.put_comm a v u h2];exact h⟩
   case skip=>exact⟨keep a hy _,by rw[←Act.put_comm a v undef h2];exact h⟩
   case defer d=>
    refine⟨keep _ (keepD d) _,?_⟩;rw[←Act.put_comm _ v undef h2,←Act.put_defers];exact h
   case enter f args=>
    refine Calls.mono h fun e w'' he=>?_;cases e with
    |returned u=>exact⟨keep a hy u,by rw[←Act.put_comm a v u h2];exact he⟩
    |panicked c=>exact hQ _ _ _ he
    |outgrown=>exact he
   case row row args=>exact Rows.mono h fun u w'' he=>⟨keep a hy u,by rw[←Act.put_comm a v u h2];exact he⟩
  |halt x w'=>
   cases x<;>simp only[Oper.upon]at h ⊢
   case panic u=>exact hQ _ _ _ h
 ·rename_i hw;simp only[hw]at h;exact⟨keep a hy _,by rw[←Act.put_comm a v undef h2];exact h⟩
theorem J6 {i:Nat}{oi:Oper}{v:Value}(hi:ops[i]? =some oi)(Ds:∀(j:Nat) (o:Oper) cs b,ops[j]? =some o→o.op≠ .select cs b)
 (hQ:∀c a w,Q (.panic c) (a.put oi.dst v) w→Q (.panic c) a w):
 ∀(fuel:Nat) (listed:Array Bool) (a:Act) (W:World),
  (∀j oj,ops[j]? =some oj→j≠i→listed.getD j true=false→(∀e∈oj.after,Region.binds .any e=true→e.on≠i)→oi.apart ops oj=true)→
  i∈Region.ready .any ops listed→QY P ops W oi v a→
  GO P ops Q fuel (listed.setIfInBounds i true) (a.put oi.dst v) W→GO P ops Q (fuel+1) listed a W:=by
 intro fuel;induction fuel with
 |zero=>
  intro listed a W _ hr hy H w hw;refine⟨fun h=>(by rw[h]at hr;cases hr),fun j hj=>?_⟩;by_cases jW:j=i
  ·subst jW;exact hy.wpOp hi hw fun w' hw'=>⟨hw',H.world (aj hw hw')⟩
  ·have:=ready_mono hj jW;rw[H.1]at this;cases this
 |succ fuel ih=>
  intro listed a W tV hr hy H w hw;refine⟨fun h=>(by rw[h]at hr;cases hr),fun j hj=>?_⟩;by_cases jW:j=i
  ·subst jW;exact hy.wpOp hi hw fun w' hw'=>⟨hw',H.world (aj hw hw')⟩
  ·have h1:=(H w hw).2 j (ready_mono hj jW);obtain⟨Dt,oj,Mb,bP⟩:=mem_ready.1 hj;have Mc:∀e∈oj.after,Region.binds .any e=true→e.on≠i:=fun e he hb heq=>by
    have h1:=bP e he hb;have h0:=(mem_ready.1 hr).1;rw[heq]at h1;rcases XP i listed.size with h'|h'
    ·simp[h']at h0 h1;rw[h0]at h1;cases h1
    ·simp[YM h']at h1
   have h2:=Hv Mb (tV j oj Mb jW Dt Mc) (fun cs b=>Ds i oi cs b hi) (fun cs b=>Ds j oj cs b Mb) hQ (hy.world hw) h1;have wN:∀k ok,ops[k]? =some ok→k≠i→(listed.setIfInBounds j true).getD k true=false→
    (∀e∈ok.after,Region.binds .any e=true→e.on≠i)→oi.apart ops ok=true:=fun k ok hk Md PB cf=>by
    refine tV k ok hk Md ?_ cf;by_cases AA:j=k
    ·subst AA;exact Dt
    ·rw[getD_set_ne true AA]at PB;exact PB
   refine wpOp_mono (fun a' w' h3=>⟨h3.2.1,ih (listed.setIfInBounds j true) a' w' wN (ready_mono hr (Ne.symm jW)) (h3.1.world h3.2.1) ?_⟩) h2;rw[Array.setIfInBounds_comm _ _ jW];exact h3.2.2
def jI (P:Program)(ops:Array Oper)(Q:Exit→Act→World→Prop):List Oper→Nat→Array Bool→Act→World→Prop
 |[],_,_,a,W=>∀w,dw W w→Q .normal a w
 |o::rest,k,listed,a,W=>
  (∃v,QY P ops W o v a∧jI P ops Q rest (k+1) (listed.setIfInBounds k true) (a.put o.dst v) W)∨
  (Region.ready .any ops listed=[k]∧Region.wanted o (yielded ops a.tmps)=true∧∀w,dw W w→o.wp P a w (fun a' w'=>dw w w'∧jI P ops Q rest (k+1) (listed.setIfInBounds k true) a' w') Q)
theorem sr (hs:Region.noSelect ops=true)(hQ:∀c a d v w,Q (.panic c) (a.put d v) w→Q (.panic c) a w):∀(l:List Oper) (k:Nat) (listed:Array Bool) (a:Act) (W:World),(∀j,l[j]? =ops[k+j]?)→
 Region.lexFrom .any ops l.length k listed=true→jI P ops Q l k listed a W→GO P ops Q l.length listed a W
 |[],_,_,_,_,_,hB,h=>⟨by simpa[Region.lexFrom]using hB,h⟩
 |o::l,k,listed,a,W,hl,hB,h=>by
  have h0:ops[k]? =some o:=by simpa using (hl 0).symm
  simp only[XA,Region.lexFrom,Xy]at hB;obtain⟨⟨hr,hf⟩,hB'⟩:=hB;have hl':∀j,l[j]? =ops[k+1+j]? :=fun j=>by have:=hl (j+1);simpa[ZF,Nat.add_comm 1 j]using this
  rcases h with⟨v,hy,hK⟩|⟨eP,Az,hK⟩
  ·exact J6 h0 (Region.noSelect_spec hs) (fun c a w=>hQ c a _ _ w) l.length listed a W (Region.free_spec h0 hf) (by simpa using hr) hy (sr hs hQ l (k+1) _ _ _ hl' hB' hK)
  ·intro w hw;refine⟨fun h=>by rw[eP]at h;simp at h,fun i hi=>?_⟩;rw[eP]at hi;obtain rfl:i=k:=by simpa using hi
   unfold wpOp;simp only[h0,Az,if_true];left;exact Oper.wp_mono (fun a' w' h'=>⟨h'.1,sr hs hQ l (i+1) _ _ _ hl' hB' h'.2⟩) (hK w hw)
theorem bZ {id:Nat}{a:Act}{w:World}{l:List Oper}(hm:P.follows .mixedOrders=true)(hB:Region.lexB .any l.toArray=true)(hQ:∀c a d v w,Q (.panic c) (a.put d v) w→Q (.panic c) a w)
 (h:jI P l.toArray Q l 0 (Y5 l.length false) a w):(Code.region id l.toArray true).wp P Q a w:=by
 simp only[Region.lexB,Xy]at hB;refine wp_region_any hm ?_;have h2:=sr hB.1 hQ l 0 (Y5 l.length false) a w (by simp) (by simpa using hB.2) h;have h3:=(h2.world ((Below.refl _ _).drew:dw w w.drew)).any;simpa using h3
section
variable {o:Oper}{rest:List Oper}{k:Nat}{listed:Array Bool}{a:Act}{W:World}
theorem dJ (h:∀w,dw W w→Q .normal a w):jI P ops Q [] k listed a W:=h
theorem vn (hw:Region.wanted o (yielded ops a.tmps)=false)(hn:jI P ops Q rest (k+1) (listed.setIfInBounds k true) (a.put o.dst undef) W):jI P ops Q (o::rest) k listed a W:=
 .inl ⟨undef,.inr ⟨hw,rfl⟩,hn⟩
theorem br {j d:Nat}{v:Value}(hg:o.guard=some (j,true))(hd:(ops[j]?).bind (·.dst)=some d)(hv:a.tmps.toList[d]? =some v)(hb:v= .bool false)(hn:jI P ops Q rest (k+1) (listed.setIfInBounds k true) (a.put o.dst undef) W):jI P ops Q (o::rest) k listed a W:=
 vn (by simp[Region.wanted,hg,gq hd hv hb]) hn
theorem bs {j d:Nat}{v:Value}(hg:o.guard=some (j,false))(hd:(ops[j]?).bind (·.dst)=some d)(hv:a.tmps.toList[d]? =some v)(hb:v= .bool true)(hn:jI P ops Q rest (k+1) (listed.setIfInBounds k true) (a.put o.dst undef) W):jI P ops Q (o::rest) k listed a W:=
 vn (by simp[Region.wanted,hg,gq hd hv hb]) hn
theorem bt {j d:Nat}{v:Value}{b:Bool}(hg:o.guard=some (j,b))(hd:(ops[j]?).bind (·.dst)=some d)(hv:a.tmps.toList[d]? =some v)(hb:v=undef)(hn:jI P ops Q rest (k+1) (listed.setIfInBounds k true) (a.put o.dst undef) W):jI P ops Q (o::rest) k listed a W:=
 vn (by simp[Region.wanted,hg,mO hd hv hb]) hn
theorem cg {v:Value}(hw:Region.wanted o (yielded ops a.tmps)=true)(h:∀w,dw W w→∀R:Value→Prop,R v→RD P w w R ((execOp a.eval o).run P w))
 (hn:jI P ops Q rest (k+1) (listed.setIfInBounds k true) (a.put o.dst v) W):jI P ops Q (o::rest) k listed a W:=
 .inl ⟨v,.inl ⟨hw,fun w hw=>sd (h w hw)⟩,hn⟩
theorem jl (hr:Region.ready .any ops listed=[k])(hw:Region.wanted o (yielded ops a.tmps)=true)
 (h:∀w,dw W w→∀K:Act→World→Prop,(∀a' w',dw w w'→jI P ops Q rest (k+1) (listed.setIfInBounds k true) a' w'→K a' w')→o.wp P a w K Q):jI P ops Q (o::rest) k listed a W:=
 .inr ⟨hr,hw,fun w hw=>h w hw _ fun _ _ h1 h2=>⟨h1,h2⟩⟩
end
theorem iw {f:FuncId}{args:Array Value}{w:World}{R:Value→Prop}{v:Value}(h:Calls P f args w fun e w'=>e= .returned v∧dw w w')(hR:R v):Calls P f args w (Bw w R):=
 h.mono fun _ _ ⟨he,hx⟩=>⟨⟨v,he,hR⟩,hx⟩
theorem pV {f:FuncId}{args:Array Value}{w:World}{R:Value→Prop}{v:Value}(h:Calls P f args w fun e w'=>e= .returned v∧w=w')(hR:R v):Calls P f args w (Bw w R):=
 h.mono fun _ _ ⟨he,hx⟩=>⟨⟨v,he,hR⟩,hx ▸ Below.refl _ _⟩
end
section
open Go.Proofs
def oc (a l b m:Int):Bool:=bE a l&&bE b m&&decide (m≤l)&&(a - a % eD m==b)
theorem kK (a l b m:Int)(w:World):
 Calls prog 43 #[.agg #[.int .i64 a,.int .i64 l],.agg #[.int .i64 b,.int .i64 m]] w fun e w'=>e= .returned (.bool (oc a l b m))∧dw w w':=by
 cases hA:(bE a l&&bE b m)
 case false=>
  have hs:oc a l b m=false:=by simp[oc,hA]
  rw[hs];have hv:=Xj hA;clear hA hs;go_enter func43,ntmps43
  go_wp2_with fail
  refine bZ (by kernel_rfl) (by kernel_rfl) (fun _ _ d _ _ h=>by cases d<;>exact h) ?_;repeat(first|((first|refine br rfl rfl rfl (by with_reducible rfl) ?_|refine bs rfl rfl rfl (by with_reducible rfl) ?_|refine bt rfl rfl rfl (by with_reducible rfl) ?_);simp only[Act.put,Xq,Xv,Xx])|(apply cg;(first|exact bx rfl|exact bD rfl rfl rfl (by with_reducible rfl));intro wq cL R hR;((have ef:=(aJ cL).1;(try simp only[Xr,aa,Xw,Xs]at ef));go_simp;first|exact hR|(fail));simp only[Act.put,Xq,Xv,Xx]))
  refine jl (by kernel_rfl) (by first|exact bx rfl|exact bD rfl rfl rfl (by with_reducible rfl)) (fun w1 cj K hK=>?_);obtain⟨ck,cq⟩:=aJ cj;have ct:=bq cj;(try simp only[Xr,aa,Xw,Xs]at ck cq ct)
  (try have l0w1:w.heap.size≤w1.heap.size:=by omega)
  (try have l1w1:w.heap.size < w1.heap.size:=by omega)
  (try have l2w1:w.heap.size+1 < w1.heap.size:=by omega)
  go_simp
  refine hK _ _ (Bel.bel (B:=_) ?_) ?_
  ·(repeat(first|with_reducible assumption|with_reducible exact Bel.refl _|with_reducible refine Bel.alloc ?_ _|with_reducible refine Bel.drewN ?_ _|with_reducible refine Bel.drew ?_|(with_reducible refine Bel.setCell0 ?_ ?_ _;rotate_left;(first|omega|(simp;done)|(simp;omega)))|(with_reducible refine Bel.setCell ?_ (p:=_) ?_ _;rotate_left;(first|(simp;done)|omega|(simp;omega)))|refine Bel.call ?_ (by assumption)|(refine EX.bel ?_ (by assumption) ?_;rotate_left;(first|omega|(simp;omega)))))
  clear hK K;repeat(first|((first|refine br rfl rfl rfl (by with_reducible rfl) ?_|refine bs rfl rfl rfl (by with_reducible rfl) ?_|refine bt rfl rfl rfl (by with_reducible rfl) ?_);simp only[Act.put,Xq,Xv,Xx])|(apply cg;(first|exact bx rfl|exact bD rfl rfl rfl (by with_reducible rfl));intro wq cL R hR;((have ef:=(aJ cL).1;(try simp only[Xr,aa,Xw,Xs]at ef));go_simp;first|exact hR|((go_at_call 48;refine iw (Eg a l b m _ hv.out ?_ ?_ ?_ ?_) hR;go_simp;go_simp;go_simp;go_simp)));simp only[Act.put,Xq,Xv,Xx]))
  refine dJ ?_;intro w2 cA;obtain⟨dN,dA⟩:=aJ cA;have dO:=bq cA;(try simp only[Xr,aa,Xw,Xs]at dN dA dO)
  go_wp2_with fail
  go_ret
  refine⟨rfl,Bel.bel (B:=_) ?_⟩;(repeat(first|with_reducible assumption|with_reducible exact Bel.refl _|with_reducible refine Bel.alloc ?_ _|with_reducible refine Bel.drewN ?_ _|with_reducible refine Bel.drew ?_|(with_reducible refine Bel.setCell0 ?_ ?_ _;rotate_left;(first|omega|(simp;done)|(simp;omega)))|(with_reducible refine Bel.setCell ?_ (p:=_) ?_ _;rotate_left;(first|(simp;done)|omega|(simp;omega)))|refine Bel.call ?_ (by assumption)|(refine EX.bel ?_ (by assumption) ?_;rotate_left;(first|omega|(simp;omega)))))
 case true=>
  have hA':=hA;simp only[Xy]at hA';obtain⟨g1,g2,g3,g4,-⟩:=dK hA'.1;obtain⟨k1,k2,k3,k4,-⟩:=dK hA'.2;obtain⟨z1,z2⟩:=pS m k1;have hv:=Xj hA;by_cases hm:m≤l
  ·have hs:oc a l b m=(a - a % eD m==b):=by simp[oc,hA,hm]
   rw[hs];have W4:=vm a m g3 g4 k1;have W5:decide (m≤l)=true:=by simp[hm]
   clear hA hA' hs hm;cases hE:(a - a % eD m==b);all_goals
    go_enter func43,ntmps43
    go_wp2_with fail
    refine bZ (by kernel_rfl) (by kernel_rfl) (fun _ _ d _ _ h=>by cases d<;>exact h) ?_;repeat(first|((first|refine br rfl rfl rfl (by with_reducible rfl) ?_|refine bs rfl rfl rfl (by with_reducible rfl) ?_|refine bt rfl rfl rfl (by with_reducible rfl) ?_);simp only[Act.put,Xq,Xv,Xx])|(apply cg;(first|exact bx rfl|exact bD rfl rfl rfl (by with_reducible rfl));intro wq cL R hR;((have ef:=(aJ cL).1;(try simp only[Xr,aa,Xw,Xs]at ef));go_simp;first|exact hR|(fail));simp only[Act.put,Xq,Xv,Xx]))
    refine jl (by kernel_rfl) (by first|exact bx rfl|exact bD rfl rfl rfl (by with_reducible rfl)) (fun w1 cj K hK=>?_);obtain⟨ck,cq⟩:=aJ cj;have ct:=bq cj;(try simp only[Xr,aa,Xw,Xs]at ck cq ct)
    (try have l0w1:w.heap.size≤w1.heap.size:=by omega)
    (try have l1w1:w.heap.size < w1.heap.size:=by omega)
    (try have l2w1:w.heap.size+1 < w1.heap.size:=by omega)
    go_simp
    refine hK _ _ (Bel.bel (B:=_) ?_) ?_
    ·(repeat(first|with_reducible assumption|with_reducible exact Bel.refl _|with_reducible refine Bel.alloc ?_ _|with_reducible refine Bel.drewN ?_ _|with_reducible refine Bel.drew ?_|(with_reducible refine Bel.setCell0 ?_ ?_ _;rotate_left;(first|omega|(simp;done)|(simp;omega)))|(with_reducible refine Bel.setCell ?_ (p:=_) ?_ _;rotate_left;(first|(simp;done)|omega|(simp;omega)))|refine Bel.call ?_ (by assumption)|(refine EX.bel ?_ (by assumption) ?_;rotate_left;(first|omega|(simp;omega)))))
    clear hK K;repeat(first|((first|refine br rfl rfl rfl (by with_reducible rfl) ?_|refine bs rfl rfl rfl (by with_reducible rfl) ?_|refine bt rfl rfl rfl (by with_reducible rfl) ?_);simp only[Act.put,Xq,Xv,Xx])|(apply cg;(first|exact bx rfl|exact bD rfl rfl rfl (by with_reducible rfl));intro wq cL R hR;((have ef:=(aJ cL).1;(try simp only[Xr,aa,Xw,Xs]at ef));go_simp;first|exact hR|(first|(go_at_call 48;refine iw (Eg a l b m _ hv.out ?_ ?_ ?_ ?_) hR;go_simp;go_simp;go_simp;go_simp)|(go_at_call 49;exact pV (nZ _ _ k1 k2) hR)));simp only[Act.put,Xq,Xv,Xx]))
    refine dJ ?_;intro w2 cA;obtain⟨dN,dA⟩:=aJ cA;have dO:=bq cA;(try simp only[Xr,aa,Xw,Xs]at dN dA dO)
    go_wp2_with fail
    go_ret
    refine⟨rfl,Bel.bel (B:=_) ?_⟩;(repeat(first|with_reducible assumption|with_reducible exact Bel.refl _|with_reducible refine Bel.alloc ?_ _|with_reducible refine Bel.drewN ?_ _|with_reducible refine Bel.drew ?_|(with_reducible refine Bel.setCell0 ?_ ?_ _;rotate_left;(first|omega|(simp;done)|(simp;omega)))|(with_reducible refine Bel.setCell ?_ (p:=_) ?_ _;rotate_left;(first|(simp;done)|omega|(simp;omega)))|refine Bel.call ?_ (by assumption)|(refine EX.bel ?_ (by assumption) ?_;rotate_left;(first|omega|(simp;omega)))))
  ·have hs:oc a l b m=false:=by simp[oc,hA,hm]
   rw[hs];have W5:decide (m≤l)=false:=by simp[hm]
   clear hA hA' hs hm;go_enter func43,ntmps43
   go_wp2_with fail
   refine bZ (by kernel_rfl) (by kernel_rfl) (fun _ _ d _ _ h=>by cases d<;>exact h) ?_;repeat(first|((first|refine br rfl rfl rfl (by with_reducible rfl) ?_|refine bs rfl rfl rfl (by with_reducible rfl) ?_|refine bt rfl rfl rfl (by with_reducible rfl) ?_);simp only[Act.put,Xq,Xv,Xx])|(apply cg;(first|exact bx rfl|exact bD rfl rfl rfl (by with_reducible rfl));intro wq cL R hR;((have ef:=(aJ cL).1;(try simp only[Xr,aa,Xw,Xs]at ef));go_simp;first|exact hR|(fail));simp only[Act.put,Xq,Xv,Xx]))
   refine jl (by kernel_rfl) (by first|exact bx rfl|exact bD rfl rfl rfl (by with_reducible rfl)) (fun w1 cj K hK=>?_);obtain⟨ck,cq⟩:=aJ cj;have ct:=bq cj;(try simp only[Xr,aa,Xw,Xs]at ck cq ct)
   (try have l0w1:w.heap.size≤w1.heap.size:=by omega)
   (try have l1w1:w.heap.size < w1.heap.size:=by omega)
   (try have l2w1:w.heap.size+1 < w1.heap.size:=by omega)
   go_simp
   refine hK _ _ (Bel.bel (B:=_) ?_) ?_
   ·(repeat(first|with_reducible assumption|with_reducible exact Bel.refl _|with_reducible refine Bel.alloc ?_ _|with_reducible refine Bel.drewN ?_ _|with_reducible refine Bel.drew ?_|(with_reducible refine Bel.setCell0 ?_ ?_ _;rotate_left;(first|omega|(simp;done)|(simp;omega)))|(with_reducible refine Bel.setCell ?_ (p:=_) ?_ _;rotate_left;(first|(simp;done)|omega|(simp;omega)))|refine Bel.call ?_ (by assumption)|(refine EX.bel ?_ (by assumption) ?_;rotate_left;(first|omega|(simp;omega)))))
   clear hK K;repeat(first|((first|refine br rfl rfl rfl (by with_reducible rfl) ?_|refine bs rfl rfl rfl (by with_reducible rfl) ?_|refine bt rfl rfl rfl (by with_reducible rfl) ?_);simp only[Act.put,Xq,Xv,Xx])|(apply cg;(first|exact bx rfl|exact bD rfl rfl rfl (by with_reducible rfl));intro wq cL R hR;((have ef:=(aJ cL).1;(try simp only[Xr,aa,Xw,Xs]at ef));go_simp;first|exact hR|((go_at_call 48;refine iw (Eg a l b m _ hv.out ?_ ?_ ?_ ?_) hR;go_simp;go_simp;go_simp;go_simp)));simp only[Act.put,Xq,Xv,Xx]))
   refine dJ ?_;intro w2 cA;obtain⟨dN,dA⟩:=aJ cA;have dO:=bq cA;(try simp only[Xr,aa,Xw,Xs]at dN dA dO)
   go_wp2_with fail
   go_ret
   refine⟨rfl,Bel.bel (B:=_) ?_⟩;(repeat(first|with_reducible assumption|with_reducible exact Bel.refl _|with_reducible refine Bel.alloc ?_ _|with_reducible refine Bel.drewN ?_ _|with_reducible refine Bel.drew ?_|(with_reducible refine Bel.setCell0 ?_ ?_ _;rotate_left;(first|omega|(simp;done)|(simp;omega)))|(with_reducible refine Bel.setCell ?_ (p:=_) ?_ _;rotate_left;(first|(simp;done)|omega|(simp;omega)))|refine Bel.call ?_ (by assumption)|(refine EX.bel ?_ (by assumption) ?_;rotate_left;(first|omega|(simp;omega)))))
end
section
open Go.Proofs
def lB (a l x:Int):Bool:=bE a l&&(decide (0≤x)&&(decide (x≤65535)&&(x - x % eD l==a)))
theorem Hw (a l x:Int)(w:World):
 Calls prog 25 #[.agg #[.int .i64 a,.int .i64 l],.int .i64 x] w fun e w'=>e= .returned (.bool (lB a l x))∧dw w w':=by
 cases hA:bE a l
 case false=>
  have hs:lB a l x=false:=by simp[lB,hA]
  rw[hs];have hv:=Xj hA;clear hA hs;go_enter func25,ntmps25
  go_wp2_with fail
  refine bZ (by kernel_rfl) (by kernel_rfl) (fun _ _ d _ _ h=>by cases d<;>exact h) ?_;repeat(first|((first|refine br rfl rfl rfl (by with_reducible rfl) ?_|refine bs rfl rfl rfl (by with_reducible rfl) ?_|refine bt rfl rfl rfl (by with_reducible rfl) ?_);simp only[Act.put,Xq,Xv,Xx])|(apply cg;(first|exact bx rfl|exact bD rfl rfl rfl (by with_reducible rfl));intro wq cL R hR;((have ef:=(aJ cL).1;(try simp only[Xr,aa,Xw,Xs]at ef));go_simp;first|exact hR|(fail));simp only[Act.put,Xq,Xv,Xx]))
  refine jl (by kernel_rfl) (by first|exact bx rfl|exact bD rfl rfl rfl (by with_reducible rfl)) (fun w1 cj K hK=>?_);obtain⟨ck,cq⟩:=aJ cj;have ct:=bq cj;(try simp only[Xr,aa,Xw,Xs]at ck cq ct)
  (try have l0w1:w.heap.size≤w1.heap.size:=by omega)
  (try have l1w1:w.heap.size < w1.heap.size:=by omega)
  (try have l2w1:w.heap.size+1 < w1.heap.size:=by omega)
  go_simp
  refine hK _ _ (Bel.bel (B:=_) ?_) ?_
  ·(repeat(first|with_reducible assumption|with_reducible exact Bel.refl _|with_reducible refine Bel.alloc ?_ _|with_reducible refine Bel.drewN ?_ _|with_reducible refine Bel.drew ?_|(with_reducible refine Bel.setCell0 ?_ ?_ _;rotate_left;(first|omega|(simp;done)|(simp;omega)))|(with_reducible refine Bel.setCell ?_ (p:=_) ?_ _;rotate_left;(first|(simp;done)|omega|(simp;omega)))|refine Bel.call ?_ (by assumption)|(refine EX.bel ?_ (by assumption) ?_;rotate_left;(first|omega|(simp;omega)))))
  clear hK K;repeat(first|((first|refine br rfl rfl rfl (by with_reducible rfl) ?_|refine bs rfl rfl rfl (by with_reducible rfl) ?_|refine bt rfl rfl rfl (by with_reducible rfl) ?_);simp only[Act.put,Xq,Xv,Xx])|(apply cg;(first|exact bx rfl|exact bD rfl rfl rfl (by with_reducible rfl));intro wq cL R hR;((have ef:=(aJ cL).1;(try simp only[Xr,aa,Xw,Xs]at ef));go_simp;first|exact hR|((go_at_call 48;refine iw (sq a l _ hv.out ?_ ?_) hR;go_simp;go_simp)));simp only[Act.put,Xq,Xv,Xx]))
  refine dJ ?_;intro w2 cA;obtain⟨dN,dA⟩:=aJ cA;have dO:=bq cA;(try simp only[Xr,aa,Xw,Xs]at dN dA dO)
  go_wp2_with fail
  go_ret
  refine⟨rfl,Bel.bel (B:=_) ?_⟩;(repeat(first|with_reducible assumption|with_reducible exact Bel.refl _|with_reducible refine Bel.alloc ?_ _|with_reducible refine Bel.drewN ?_ _|with_reducible refine Bel.drew ?_|(with_reducible refine Bel.setCell0 ?_ ?_ _;rotate_left;(first|omega|(simp;done)|(simp;omega)))|(with_reducible refine Bel.setCell ?_ (p:=_) ?_ _;rotate_left;(first|(simp;done)|omega|(simp;omega)))|refine Bel.call ?_ (by assumption)|(refine EX.bel ?_ (by assumption) ?_;rotate_left;(first|omega|(simp;omega)))))
 case true=>
  obtain⟨g1,g2,g3,g4,-⟩:=dK hA;obtain⟨z1,z2⟩:=pS l g1;have hv:=Xj hA;by_cases h0:0≤x
  ·by_cases h1:x≤65535
   ·have hs:lB a l x=(x - x % eD l==a):=by simp[lB,hA,h0,h1]
    rw[hs];have W4:=vm x l h0 h1 g1;have VT:decide (0≤x)=true:=by simp[h0]
    have W6:decide (x≤65535)=true:=by simp[h1]
    clear hA hs;cases hE:(x - x % eD l==a);all_goals
     go_enter func25,ntmps25
     go_wp2_with fail
     refine bZ (by kernel_rfl) (by kernel_rfl) (fun _ _ d _ _ h=>by cases d<;>exact h) ?_;repeat(first|((first|refine br rfl rfl rfl (by with_reducible rfl) ?_|refine bs rfl rfl rfl (by with_reducible rfl) ?_|refine bt rfl rfl rfl (by with_reducible rfl) ?_);simp only[Act.put,Xq,Xv,Xx])|(apply cg;(first|exact bx rfl|exact bD rfl rfl rfl (by with_reducible rfl));intro wq cL R hR;((have ef:=(aJ cL).1;(try simp only[Xr,aa,Xw,Xs]at ef));go_simp;first|exact hR|(fail));simp only[Act.put,Xq,Xv,Xx]))
     refine jl (by kernel_rfl) (by first|exact bx rfl|exact bD rfl rfl rfl (by with_reducible rfl)) (fun w1 cj K hK=>?_);obtain⟨ck,cq⟩:=aJ cj;have ct:=bq cj;(try simp only[Xr,aa,Xw,Xs]at ck cq ct)
     (try have l0w1:w.heap.size≤w1.heap.size:=by omega)
     (try have l1w1:w.heap.size < w1.heap.size:=by omega)
     (try have l2w1:w.heap.size+1 < w1.heap.size:=by omega)
     go_simp
     refine hK _ _ (Bel.bel (B:=_) ?_) ?_
     ·(repeat(first|with_reducible assumption|with_reducible exact Bel.refl _|with_reducible refine Bel.alloc ?_ _|with_reducible refine Bel.drewN ?_ _|with_reducible refine Bel.drew ?_|(with_reducible refine Bel.setCell0 ?_ ?_ _;rotate_left;(first|omega|(simp;done)|(simp;omega)))|(with_reducible refine Bel.setCell ?_ (p:=_) ?_ _;rotate_left;(first|(simp;done)|omega|(simp;omega)))|refine Bel.call ?_ (by assumption)|(refine EX.bel ?_ (by assumption) ?_;rotate_left;(first|omega|(simp;omega)))))
     clear hK K;repeat(first|((first|refine br rfl rfl rfl (by with_reducible rfl) ?_|refine bs rfl rfl rfl (by with_reducible rfl) ?_|refine bt rfl rfl rfl (by with_reducible rfl) ?_);simp only[Act.put,Xq,Xv,Xx])|(apply cg;(first|exact bx rfl|exact bD rfl rfl rfl (by with_reducible rfl));intro wq cL R hR;((have ef:=(aJ cL).1;(try simp only[Xr,aa,Xw,Xs]at ef));go_simp;first|exact hR|(first|(go_at_call 48;refine iw (sq a l _ hv.out ?_ ?_) hR;go_simp;go_simp)|(go_at_call 49;exact pV (nZ _ _ g1 g2) hR)));simp only[Act.put,Xq,Xv,Xx]))
     refine dJ ?_;intro w2 cA;obtain⟨dN,dA⟩:=aJ cA;have dO:=bq cA;(try simp only[Xr,aa,Xw,Xs]at dN dA dO)
     go_wp2_with fail
     go_ret
     refine⟨rfl,Bel.bel (B:=_) ?_⟩;(repeat(first|with_reducible assumption|with_reducible exact Bel.refl _|with_reducible refine Bel.alloc ?_ _|with_reducible refine Bel.drewN ?_ _|with_reducible refine Bel.drew ?_|(with_reducible refine Bel.setCell0 ?_ ?_ _;rotate_left;(first|omega|(simp;done)|(simp;omega)))|(with_reducible refine Bel.setCell ?_ (p:=_) ?_ _;rotate_left;(first|(simp;done)|omega|(simp;omega)))|refine Bel.call ?_ (by assumption)|(refine EX.bel ?_ (by assumption) ?_;rotate_left;(first|omega|(simp;omega)))))
   ·have hs:lB a l x=false:=by simp[lB,h1]
    rw[hs];have VT:decide (0≤x)=true:=by simp[h0]
    have W6:decide (x≤65535)=false:=by simp[h1]
    clear hA hs h1;go_enter func25,ntmps25
    go_wp2_with fail
    refine bZ (by kernel_rfl) (by kernel_rfl) (fun _ _ d _ _ h=>by cases d<;>exact h) ?_;repeat(first|((first|refine br rfl rfl rfl (by with_reducible rfl) ?_|refine bs rfl rfl rfl (by with_reducible rfl) ?_|refine bt rfl rfl rfl (by with_reducible rfl) ?_);simp only[Act.put,Xq,Xv,Xx])|(apply cg;(first|exact bx rfl|exact bD rfl rfl rfl (by with_reducible rfl));intro wq cL R hR;((have ef:=(aJ cL).1;(try simp only[Xr,aa,Xw,Xs]at ef));go_simp;first|exact hR|(fail));simp only[Act.put,Xq,Xv,Xx]))
    refine jl (by kernel_rfl) (by first|exact bx rfl|exact bD rfl rfl rfl (by with_reducible rfl)) (fun w1 cj K hK=>?_);obtain⟨ck,cq⟩:=aJ cj;have ct:=bq cj;(try simp only[Xr,aa,Xw,Xs]at ck cq ct)
    (try have l0w1:w.heap.size≤w1.heap.size:=by omega)
    (try have l1w1:w.heap.size < w1.heap.size:=by omega)
    (try have l2w1:w.heap.size+1 < w1.heap.size:=by omega)
    go_simp
    refine hK _ _ (Bel.bel (B:=_) ?_) ?_
    ·(repeat(first|with_reducible assumption|with_reducible exact Bel.refl _|with_reducible refine Bel.alloc ?_ _|with_reducible refine Bel.drewN ?_ _|with_reducible refine Bel.drew ?_|(with_reducible refine Bel.setCell0 ?_ ?_ _;rotate_left;(first|omega|(simp;done)|(simp;omega)))|(with_reducible refine Bel.setCell ?_ (p:=_) ?_ _;rotate_left;(first|(simp;done)|omega|(simp;omega)))|refine Bel.call ?_ (by assumption)|(refine EX.bel ?_ (by assumption) ?_;rotate_left;(first|omega|(simp;omega)))))
    clear hK K;repeat(first|((first|refine br rfl rfl rfl (by with_reducible rfl) ?_|refine bs rfl rfl rfl (by with_reducible rfl) ?_|refine bt rfl rfl rfl (by with_reducible rfl) ?_);simp only[Act.put,Xq,Xv,Xx])|(apply cg;(first|exact bx rfl|exact bD rfl rfl rfl (by with_reducible rfl));intro wq cL R hR;((have ef:=(aJ cL).1;(try simp only[Xr,aa,Xw,Xs]at ef));go_simp;first|exact hR|((go_at_call 48;refine iw (sq a l _ hv.out ?_ ?_) hR;go_simp;go_simp)));simp only[Act.put,Xq,Xv,Xx]))
    refine dJ ?_;intro w2 cA;obtain⟨dN,dA⟩:=aJ cA;have dO:=bq cA;(try simp only[Xr,aa,Xw,Xs]at dN dA dO)
    go_wp2_with fail
    go_ret
    refine⟨rfl,Bel.bel (B:=_) ?_⟩;(repeat(first|with_reducible assumption|with_reducible exact Bel.refl _|with_reducible refine Bel.alloc ?_ _|with_reducible refine Bel.drewN ?_ _|with_reducible refine Bel.drew ?_|(with_reducible refine Bel.setCell0 ?_ ?_ _;rotate_left;(first|omega|(simp;done)|(simp;omega)))|(with_reducible refine Bel.setCell ?_ (p:=_) ?_ _;rotate_left;(first|(simp;done)|omega|(simp;omega)))|refine Bel.call ?_ (by assumption)|(refine EX.bel ?_ (by assumption) ?_;rotate_left;(first|omega|(simp;omega)))))
  ·have hs:lB a l x=false:=by simp[lB,h0]
   rw[hs];have VT:decide (0≤x)=false:=by simp[h0]
   clear hA hs h0;go_enter func25,ntmps25
   go_wp2_with fail
   refine bZ (by kernel_rfl) (by kernel_rfl) (fun _ _ d _ _ h=>by cases d<;>exact h) ?_;repeat(first|((first|refine br rfl rfl rfl (by with_reducible rfl) ?_|refine bs rfl rfl rfl (by with_reducible rfl) ?_|refine bt rfl rfl rfl (by with_reducible rfl) ?_);simp only[Act.put,Xq,Xv,Xx])|(apply cg;(first|exact bx rfl|exact bD rfl rfl rfl (by with_reducible rfl));intro wq cL R hR;((have ef:=(aJ cL).1;(try simp only[Xr,aa,Xw,Xs]at ef));go_simp;first|exact hR|(fail));simp only[Act.put,Xq,Xv,Xx]))
   refine jl (by kernel_rfl) (by first|exact bx rfl|exact bD rfl rfl rfl (by with_reducible rfl)) (fun w1 cj K hK=>?_);obtain⟨ck,cq⟩:=aJ cj;have ct:=bq cj;(try simp only[Xr,aa,Xw,Xs]at ck cq ct)
   (try have l0w1:w.heap.size≤w1.heap.size:=by omega)
   (try have l1w1:w.heap.size < w1.heap.size:=by omega)
   (try have l2w1:w.heap.size+1 < w1.heap.size:=by omega)
   go_simp
   refine hK _ _ (Bel.bel (B:=_) ?_) ?_
   ·(repeat(first|with_reducible assumption|with_reducible exact Bel.refl _|with_reducible refine Bel.alloc ?_ _|with_reducible refine Bel.drewN ?_ _|with_reducible refine Bel.drew ?_|(with_reducible refine Bel.setCell0 ?_ ?_ _;rotate_left;(first|omega|(simp;done)|(simp;omega)))|(with_reducible refine Bel.setCell ?_ (p:=_) ?_ _;rotate_left;(first|(simp;done)|omega|(simp;omega)))|refine Bel.call ?_ (by assumption)|(refine EX.bel ?_ (by assumption) ?_;rotate_left;(first|omega|(simp;omega)))))
   clear hK K;repeat(first|((first|refine br rfl rfl rfl (by with_reducible rfl) ?_|refine bs rfl rfl rfl (by with_reducible rfl) ?_|refine bt rfl rfl rfl (by with_reducible rfl) ?_);simp only[Act.put,Xq,Xv,Xx])|(apply cg;(first|exact bx rfl|exact bD rfl rfl rfl (by with_reducible rfl));intro wq cL R hR;((have ef:=(aJ cL).1;(try simp only[Xr,aa,Xw,Xs]at ef));go_simp;first|exact hR|((go_at_call 48;refine iw (sq a l _ hv.out ?_ ?_) hR;go_simp;go_simp)));simp only[Act.put,Xq,Xv,Xx]))
   refine dJ ?_;intro w2 cA;obtain⟨dN,dA⟩:=aJ cA;have dO:=bq cA;(try simp only[Xr,aa,Xw,Xs]at dN dA dO)
   go_wp2_with fail
   go_ret
   refine⟨rfl,Bel.bel (B:=_) ?_⟩;(repeat(first|with_reducible assumption|with_reducible exact Bel.refl _|with_reducible refine Bel.alloc ?_ _|with_reducible refine Bel.drewN ?_ _|with_reducible refine Bel.drew ?_|(with_reducible refine Bel.setCell0 ?_ ?_ _;rotate_left;(first|omega|(simp;done)|(simp;omega)))|(with_reducible refine Bel.setCell ?_ (p:=_) ?_ _;rotate_left;(first|(simp;done)|omega|(simp;omega)))|refine Bel.call ?_ (by assumption)|(refine EX.bel ?_ (by assumption) ?_;rotate_left;(first|omega|(simp;omega)))))
def FM (a l b m:Int):Bool:=oc a l b m||oc b m a l
theorem yx (a l b m:Int)(w:World):
 Calls prog 19 #[.agg #[.int .i64 a,.int .i64 l],.agg #[.int .i64 b,.int .i64 m]] w fun e w'=>e= .returned (.bool (FM a l b m))∧dw w w':=by
 unfold FM;cases hA:oc a l b m
 case true=>
  have hc:=kK a l b m;rw[hA]at hc;replace hc:=Xj hc;clear hA;go_enter func19,ntmps19
  go_wp2_with fail
  refine(hc.out _).mono ?_;rintro e w1 ⟨rfl,cj⟩;obtain⟨ck,cq⟩:=aJ cj;have ct:=bq cj;(try simp only[Xr,aa,Xw,Xs]at ck cq ct)
  go_wp2_with fail
  go_ret
  refine⟨rfl,Bel.bel (B:=_) ?_⟩;(repeat(first|with_reducible assumption|with_reducible exact Bel.refl _|with_reducible refine Bel.alloc ?_ _|with_reducible refine Bel.drewN ?_ _|with_reducible refine Bel.drew ?_|(with_reducible refine Bel.setCell0 ?_ ?_ _;rotate_left;(first|omega|(simp;done)|(simp;omega)))|(with_reducible refine Bel.setCell ?_ (p:=_) ?_ _;rotate_left;(first|(simp;done)|omega|(simp;omega)))|refine Bel.call ?_ (by assumption)|(refine EX.bel ?_ (by assumption) ?_;rotate_left;(first|omega|(simp;omega)))))
 case false=>
  have hc:=kK a l b m;rw[hA]at hc;replace hc:=Xj hc;clear hA;obtain⟨r,hr⟩:∃r,r=oc b m a l:=⟨_,rfl⟩;have hd:=kK b m a l;rw[←hr]at hd ⊢;clear hr;replace hd:=Xj hd;go_enter func19,ntmps19
  go_wp2_with fail
  refine(hc.out _).mono ?_;rintro e w1 ⟨rfl,cj⟩;obtain⟨ck,cq⟩:=aJ cj;have ct:=bq cj;(try simp only[Xr,aa,Xw,Xs]at ck cq ct)
  go_wp2_with fail
  refine(hd.out _).mono ?_;rintro e w2 ⟨rfl,cA⟩;obtain⟨dN,dA⟩:=aJ cA;have dO:=bq cA;(try simp only[Xr,aa,Xw,Xs]at dN dA dO)
  go_wp2_with fail
  go_ret
  refine⟨rfl,Bel.bel (B:=_) ?_⟩;(repeat(first|with_reducible assumption|with_reducible exact Bel.refl _|with_reducible refine Bel.alloc ?_ _|with_reducible refine Bel.drewN ?_ _|with_reducible refine Bel.drew ?_|(with_reducible refine Bel.setCell0 ?_ ?_ _;rotate_left;(first|omega|(simp;done)|(simp;omega)))|(with_reducible refine Bel.setCell ?_ (p:=_) ?_ _;rotate_left;(first|(simp;done)|omega|(simp;omega)))|refine Bel.call ?_ (by assumption)|(refine EX.bel ?_ (by assumption) ?_;rotate_left;(first|omega|(simp;omega)))))
end
theorem qS (p:Pfx):af prog 114 [.agg (aN p)] (.v (.int .i64 (chk p.at_ p.len))):=eQ (cW func114 (by kernel_rfl) rfl) (by intro d hd;simp at hd;(repeat(first|(obtain rfl:=hd;rfl)|(rcases hd with rfl|hd; · rfl)))) rfl rfl (fun w=>oT _ _ _)
theorem P8 (p:Pfx):af prog 176 [.agg (aN p)] (.v (.int .i64 (tv p.at_ p.len))):=eQ (cW func176 (by kernel_rfl) rfl) (by intro d hd;simp at hd;(repeat(first|(obtain rfl:=hd;rfl)|(rcases hd with rfl|hd; · rfl)))) rfl rfl (fun w=>BT _ _ _)
theorem BU (p q:Pfx):af prog 43 [.agg (aN p),.agg (aN q)] (.v (.bool (oc p.at_ p.len q.at_ q.len))):=eQ (cW func43 (by kernel_rfl) rfl) (by intro d hd;simp at hd;(repeat(first|(obtain rfl:=hd;rfl)|(rcases hd with rfl|hd; · rfl)))) rfl rfl (fun w=>kK _ _ _ _ _)
theorem oU (p q:Pfx):af prog 19 [.agg (aN p),.agg (aN q)] (.v (.bool (FM p.at_ p.len q.at_ q.len))):=eQ (cW func19 (by kernel_rfl) rfl) (by intro d hd;simp at hd;(repeat(first|(obtain rfl:=hd;rfl)|(rcases hd with rfl|hd; · rfl)))) rfl rfl (fun w=>yx _ _ _ _ _)
theorem vq (p:Pfx):af prog 189 [.agg (aN p)] (.v (.bool (bE p.at_ p.len))):=eQ (cW func189 (by kernel_rfl) rfl) (by intro d hd;simp at hd;(repeat(first|(obtain rfl:=hd;rfl)|(rcases hd with rfl|hd; · rfl)))) rfl rfl (fun w=>dX _ _ _)
theorem J7 (p:Pfx)(h:bE p.at_ p.len=true):af prog 190 [.agg (aN p)] (.v (.int .i64 (kI p.at_ p.len))):=eQ (cW func190 (by kernel_rfl) rfl) (by intro d hd;simp at hd;(repeat(first|(obtain rfl:=hd;rfl)|(rcases hd with rfl|hd; · rfl)))) rfl rfl (fun w=>jH _ _ _ h)
theorem Hy (p:Pfx)(x:Int):af prog 224 [.agg (aN p),.v (.int .i64 x)] (.v (.bool (kJ p.at_ p.len x))):=eQ (cW func224 (by kernel_rfl) rfl) (by intro d hd;simp at hd;(repeat(first|(obtain rfl:=hd;rfl)|(rcases hd with rfl|hd; · rfl)))) rfl rfl (fun w=>n9 _ _ _ _)
theorem vr (p q:Pfx):af prog 169 [.agg (aN p),.agg (aN q)] (.v (.bool (xu p.at_ p.len q.at_ q.len))):=eQ (cW func169 (by kernel_rfl) rfl) (by intro d hd;simp at hd;(repeat(first|(obtain rfl:=hd;rfl)|(rcases hd with rfl|hd; · rfl)))) rfl rfl (fun w=>qQ _ _ _ _ _)
theorem pW (p q:Pfx):af prog 106 [.agg (aN p),.agg (aN q)] (.v (.bool (np p.at_ p.len q.at_ q.len))):=eQ (cW func106 (by kernel_rfl) rfl) (by intro d hd;simp at hd;(repeat(first|(obtain rfl:=hd;rfl)|(rcases hd with rfl|hd; · rfl)))) rfl rfl (fun w=>qR _ _ _ _ _)
section
open Go.Proofs
def Pfx.meets (p q:Pfx):Bool:=FM p.at_ p.len q.at_ q.len
def Pfx.low (p:Pfx):Pfx:=⟨p.at_,p.len+1⟩
def Pfx.high (p:Pfx):Pfx:=⟨p.at_+eD (p.len+1),p.len+1⟩
def Pfx.right (p:Pfx):Bool:=bE p.at_ p.len
def Pfx.v (p:Pfx):Value:= .agg #[.int .i64 p.at_,.int .i64 p.len]
theorem od {a l:Int}(h0:0≤l)(h1:l≤16)(h2:0≤a)(h3:a≤65535)(h4:a % eD l=0):bE a l=true:=by
 unfold bE;rw[D9 h0 h1 h2 h3];unfold eD at h4;simp[h4]
theorem qT {l:Int}(h0:0≤l)(h1:l < 16):eD l=2*eD (l+1):=by
 unfold eD;have:(16 - l).toNat=(16 - (l+1)).toNat+1:=by omega
 rw[this,Int.pow_succ];omega
theorem mU {l m:Int}(h0:0≤m)(h1:m≤l)(h2:l≤16):∃k:Int,eD m=eD l*k∧1≤k:=by
 refine⟨2 ^ (l - m).toNat,?_,?_⟩
 ·unfold eD;rw[←Int.pow_add];congr 1;omega
 ·have h3:=Z' (n:=(l - m).toNat);have h4:((2 ^ (l - m).toNat:Nat):Int)=(2:Int) ^ (l - m).toNat:=by simp
  omega
theorem yy {a l:Int}(h:bE a l=true):a+eD l≤65536:=by
 obtain⟨g1,g2,g3,g4,g5⟩:=dK h;obtain⟨k,hk,pc⟩:=mU (ZG 0) g1 g2;have h0:eD 0=65536:=by decide
 rw[h0]at hk;have hs:=eX g1;have hd:eD l ∣ 65536 - a:=by
  refine Int.dvd_sub ⟨k,hk⟩ (YL g5)
 have:=Int.le_of_dvd (by omega) hd;omega
def dL (p q:Pfx):Bool:=oc p.at_ p.len q.at_ q.len
def Pfx.hi (p:Pfx):Int:=p.at_+eD p.len
theorem Pfx.bd {p:Pfx}(h:p.right=true):0≤p.len∧p.len≤16∧0≤p.at_∧p.at_≤65535∧p.at_ % eD p.len=0:=dK h
theorem Pfx.hi_bd {p:Pfx}(h:p.right=true):p.at_ < p.hi∧p.hi≤65536:=by
 have h1:=yy h;obtain⟨g1,-⟩:=p.bd h;have h2:=eX g1;unfold Pfx.hi;omega
theorem ul {s a b:Int}(hs:0 < s)(hb:b % s=0):a - a % s=b↔b≤a∧a < b+s:=by
 have h1:=Int.emod_nonneg a (b:=s) (by omega);have h2:=Int.emod_lt_of_pos a hs;constructor
 ·intro h;omega
 ·intro⟨h3,h4⟩;have h5:(a - b) % s=a % s:=by rw[Int.sub_emod,hb,Int.sub_zero,Int.emod_emod]
  rw[Int.emod_eq_of_lt (by omega) (by omega)]at h5;omega
theorem qU {s x:Int}(hs:0 < s)(hx:0 < x)(hd:s ∣ x):s≤x:=Int.le_of_dvd hx hd
theorem P9 {p q:Pfx}(hp:p.right=true)(hq:q.right=true)(hl:q.len≤p.len)(h1:p.at_ < q.hi)(h2:q.at_ < p.hi):q.at_≤p.at_∧p.hi≤q.hi:=by
 obtain⟨a1,a2,a3,a4,a5⟩:=p.bd hp;obtain⟨b1,b2,b3,b4,b5⟩:=q.bd hq;obtain⟨k,hk,pc⟩:=mU b1 hl a2;have s1:=eX a1;have s2:=eX b1;unfold Pfx.hi at*;have dq:eD p.len ∣ q.at_:=C' ⟨k,hk⟩ (YL b5);have dp:eD p.len ∣ p.at_:=YL a5;have dm:eD p.len ∣ eD q.len:=⟨k,hk⟩;refine⟨?_,?_⟩
 ·rcases z' p.at_ q.at_ with h|h
  ·have:=qU (by omega) (show 0 < q.at_ - p.at_ by omega) (Int.dvd_sub dq dp);omega
  ·exact h
 ·have:=qU (by omega) (show 0 < q.at_+eD q.len - p.at_ by omega) (Int.dvd_sub (Int.dvd_add dq dm) dp);omega
theorem eY {p q:Pfx}:dL p q=true↔p.right=true∧q.right=true∧q.len≤p.len∧q.at_≤p.at_∧p.at_ < q.hi:=by
 unfold dL oc Pfx.right;constructor
 ·intro h;simp only[Xy,decide_eq_true_eq,beq_iff_eq]at h;obtain⟨⟨⟨h1,h2⟩,h3⟩,h4⟩:=h;obtain⟨b1,b2,b3,b4,b5⟩:=dK h2;have:=(ul (by have:=eX b1;omega) b5).1 h4;exact⟨h1,h2,h3,this.1,this.2⟩
 ·intro⟨h1,h2,h3,h4,h5⟩;obtain⟨b1,b2,b3,b4,b5⟩:=dK h2;simp only[Xy,decide_eq_true_eq,beq_iff_eq];exact⟨⟨⟨h1,h2⟩,h3⟩,(ul (by have:=eX b1;omega) b5).2 ⟨h4,h5⟩⟩
theorem FN {s k:Int}(hs:0≤s)(hk:1≤k):s≤s*k:=by
 have:=Int.mul_le_mul_of_nonneg_left hk hs;rwa [Int.mul_one]at this
theorem Qa {l m:Int}(h0:0≤m)(h2:l≤16)(h3:0≤l)(hm:m≤16):eD l≤eD m↔m≤l:=by
 constructor
 ·intro h;rcases z' l m with hlt|hle
  ·obtain⟨k,hk,pc⟩:=mU (l:=m) (m:=l+1) (by omega) (by omega) hm;have e:=qT h3 (by omega);have s1:=eX h0;have:eD m≤eD (l+1):=by rw[hk];exact FN (by have:=eX (n:=l+1) (by omega);omega) pc
   omega
  ·exact hle
 ·intro h;obtain⟨k,hk,pc⟩:=mU h0 h h2;rw[hk];exact FN (by have:=eX h3;omega) pc
theorem cw {p q:Pfx}:dL p q=true↔p.right=true∧q.right=true∧q.at_≤p.at_∧p.hi≤q.hi:=by
 rw[eY];constructor
 ·intro⟨h1,h2,h3,h4,h5⟩;exact⟨h1,h2,P9 h1 h2 h3 h5 (by have:=p.hi_bd h1;omega)⟩
 ·intro⟨h1,h2,h3,h4⟩;have hp:=p.hi_bd h1;obtain⟨a1,a2,-⟩:=p.bd h1;obtain⟨b1,b2,-⟩:=q.bd h2;exact⟨h1,h2,(Qa b1 a2 a1 b2).1 (by unfold Pfx.hi at*;omega),h3,by omega⟩
theorem um (p q:Pfx):xu p.at_ p.len q.at_ q.len=dL p q:=by
 rw[Yi,cw];unfold xu kJ fA kI Pfx.right Pfx.hi;simp only[Xy,decide_eq_true_eq];constructor
 ·intro⟨⟨⟨h1,h2⟩,h3⟩,h4⟩;exact⟨h1,h2,h3.2.1,by omega⟩
 ·intro⟨h1,h2,h3,h4⟩;obtain⟨a1,-⟩:=dK h1;have s1:=eX a1;exact⟨⟨⟨h1,h2⟩,⟨h2,h3,by omega⟩⟩,⟨h2,by omega,by omega⟩⟩
theorem dQ {p q:Pfx}:p.meets q=true↔p.right=true∧q.right=true∧p.at_ < q.hi∧q.at_ < p.hi:=by
 have e:p.meets q=(dL p q||dL q p):=rfl;rw[e,Bool.or_eq_true,eY,eY];constructor
 ·rintro (⟨h1,h2,h3,h4,h5⟩|⟨h1,h2,h3,h4,h5⟩)
  ·exact⟨h1,h2,h5,by have:=p.hi_bd h1;omega⟩
  ·exact⟨h2,h1,by have:=q.hi_bd h1;omega,h5⟩
 ·intro⟨h1,h2,h3,h4⟩;rcases Int.le_total q.len p.len with hl|hl
  ·exact .inl ⟨h1,h2,hl,(P9 h1 h2 hl h3 h4).1,h3⟩
  ·exact .inr ⟨h2,h1,hl,(P9 h2 h1 hl h4 h3).1,h4⟩
theorem eZ (p q:Pfx):np p.at_ p.len q.at_ q.len=p.meets q:=by
 rw[Yi,dQ];unfold np kI Pfx.right Pfx.hi;simp only[Xy,decide_eq_true_eq];constructor
 ·intro⟨⟨⟨h1,h2⟩,h3⟩,h4⟩;exact⟨h1,h2,by omega,by omega⟩
 ·intro⟨h1,h2,h3,h4⟩;exact⟨⟨⟨h1,h2⟩,by omega⟩,by omega⟩
theorem pX (p q:Pfx):p.meets q=q.meets p:=by
 rw[Yi,dQ,dQ];constructor<;>(intro⟨h1,h2,h3,h4⟩;exact⟨h2,h1,h4,h3⟩)
theorem mi {p:Pfx}{x:Int}:kJ p.at_ p.len x=true↔p.right=true∧p.at_≤x∧x < p.hi:=by
 unfold kJ fA kI Pfx.right Pfx.hi;simp only[Xy,decide_eq_true_eq];constructor
 ·intro⟨h1,h2,h3⟩;exact⟨h1,h2,by omega⟩
 ·intro⟨h1,h2,h3⟩;exact⟨h1,h2,by omega⟩
theorem oe (p:Pfx)(x:Int):lB p.at_ p.len x=kJ p.at_ p.len x:=by
 rw[Yi,mi];unfold lB Pfx.right;simp only[Xy,decide_eq_true_eq,beq_iff_eq];constructor
 ·intro⟨h1,h2,h3,h4⟩;obtain⟨b1,b2,b3,b4,b5⟩:=dK h1;have:=(ul (by have:=eX b1;omega) b5).1 h4;exact⟨h1,this.1,this.2⟩
 ·intro⟨h1,h2,h3⟩;obtain⟨b1,b2,b3,b4,b5⟩:=dK h1;have hf:=p.hi_bd h1;exact⟨h1,by omega,by omega,(ul (by have:=eX b1;omega) b5).2 ⟨h2,h3⟩⟩
theorem tw {a l:Int}(h:bE a l=true):tv a l=eD l:=by unfold tv;rw[if_pos h]
end
def cF (n:Int):Bool:=decide (1≤n)&&decide (n≤65536)
theorem kL (n:Int):af prog 148 [.v (.int .i64 n)] (.v (.bool (cF n))):=by
 cases e1:decide (n≥1)with
 |true=>
  have h1:decide (1≤n)=true:=e1;refine pj func148 ntmps148 results148 ?_;refine am ?_<;>intros;all_goals(unfold cF;rw[h1];exact ai.refl _)
 |false=>
  have h1:decide (1≤n)=false:=e1;refine pj func148 ntmps148 results148 ?_;refine am ?_<;>intros;all_goals(unfold cF;rw[h1];exact ai.refl _)
theorem FO {x y:Bool}(h:x=y):ai (.v (.bool x)) (.v (.bool y)):=h ▸ ai.refl _
theorem qV {x y:Int}(h:x=y):ai (.v (.int .i64 x)) (.v (.int .i64 y)):=h ▸ ai.refl _
def pA (f:Fce):Bool:=decide ((f.addrs.length:Int)>4)
def nq (s:Sbn):Bool:=decide ((s.faces.length:Int)>8)||s.faces.any pA
def kM (v:Vpc):Bool:=decide ((v.ranges.length:Int)>4)||(decide ((v.subs.length:Int)>6)||v.subs.any nq)
theorem J8 (f:Fce):af prog 231 [.agg (cl f)] (.v (.bool (pA f))):=by
 refine pj func231 ntmps231 results231 ?_;exact aZ;all_goals exact ai.refl _
theorem ND (s:Sbn):af prog 229 [.agg (aU s)] (.v (.bool (nq s))):=by
 unfold nq;by_cases h:s.faces.length>8
 ·have h1:decide ((s.faces.length:Int)>8)=true:=by simp;omega
  rw[h1];refine pj func229 ntmps229 results229 ?_;exact aZ;all_goals exact ai.refl _
 ·have h1:decide ((s.faces.length:Int)>8)=false:=by simp;omega
  have hc:=Hs u9 pA s.faces 231 [] (by omega) (fun f _=>J8 f);rw[h1];refine pj func229 ntmps229 results229 ?_;exact aZ;all_goals exact ai.refl _
theorem Qb (v:Vpc):af prog 180 [.agg (al v)] (.v (.bool (kM v))):=by
 unfold kM;cases h1:decide ((v.ranges.length:Int)>4)with
 |true=>
  refine pj func180 ntmps180 results180 ?_;exact aZ;all_goals exact ai.refl _
 |false=>
  cases h2:decide ((v.subs.length:Int)>6)with
  |true=>
   refine pj func180 ntmps180 results180 ?_;exact aZ;all_goals exact ai.refl _
  |false=>
   have hl:v.subs.length≤6:=by simp at h2;omega
   have hc:=vl mc nq v.subs 229 [] (by omega) (fun f _=>ND f);refine pj func180 ntmps180 results180 ?_;exact aZ;all_goals exact ai.refl _
theorem vt {v:Vpc}(h:kM v=false):v.ranges.length≤4∧v.subs.length≤6∧∀s∈v.subs,s.faces.length≤8∧∀f∈s.faces,f.addrs.length≤4:=by
 simp only[kM,nq,pA,Zm,decide_eq_false_iff_not,Yh]at h;refine⟨by omega,by omega,fun s hs=>?_⟩;have h1:=h.2.2 s hs;simp only[ZI,Zm,decide_eq_false_iff_not,Yh,decide_eq_true_eq]at h1;exact⟨by omega,fun f hf=>by have h2:=h1.2 f hf;revert h2;simp[pA];omega⟩
def fB (v:Vpc)(p:Pfx):Bool:=v.ranges.any fun r=>dL p r.at_
theorem J9 (r:Rng)(p:Pfx):af prog 214 [.agg (bv r),.ept (aN p)] (.v (.bool (dL p r.at_))):=by
 have hi:af prog 43 [.agg (aN p),.agg (aN r.at_)] (.v (.bool (dL p r.at_))):=BU p r.at_;refine pj func214 ntmps214 results214 ?_;exact aZ
theorem qW (v:Vpc)(p:Pfx)(hl:v.ranges.length≤1000000000):af prog 149 [.agg (al v),.agg (aN p)] (.v (.bool (fB v p))):=by
 have hc:=mS md (fun r=>dL p r.at_) v.ranges 214 [.ept (aN p)] hl (fun r _=>J9 r p);refine pj func149 ntmps149 results149 ?_;exact aZ
theorem NE (p:Pfx)(x:Int):af prog 25 [.agg (aN p),.v (.int .i64 x)] (.v (.bool (lB p.at_ p.len x))):=eQ (cW func25 (by kernel_rfl) rfl) (by intro d hd;simp at hd;(repeat(first|(obtain rfl:=hd;rfl)|(rcases hd with rfl|hd; · rfl)))) rfl rfl (fun w=>Hw _ _ _ _)
def iO (p:Pfx)(x:Int):Bool:=lB p.at_ p.len x&&(decide (x>p.at_)&&decide (x < p.at_+eD p.len - 1))
theorem FP (p:Pfx)(x:Int):af prog 219 [.agg (aN p),.v (.int .i64 x)] (.v (.bool (iO p x))):=by
 have hh:=NE p x;unfold iO;cases h1:lB p.at_ p.len x with
 |false=>
  rw[h1]at hh;refine pj func219 ntmps219 results219 ?_;exact aZ;all_goals exact ai.refl _
 |true=>
  have hr:p.right=true:=(mi.1 (by rw[←oe];exact h1)).1;obtain⟨b1,b2,b3,b4,-⟩:=p.bd hr;have hs:=eX b1;have DM:=P8 p;rw[tw hr]at DM;have cj:IntKind.i64.wrap (p.at_+eD p.len)=p.at_+eD p.len:=by rw[IntKind.wrap_i64];omega
  have cA:IntKind.i64.wrap (p.at_+eD p.len - 1)=p.at_+eD p.len - 1:=by rw[IntKind.wrap_i64];omega
  rw[h1]at hh;generalize eD p.len=Z at*;cases h2:decide (x>p.at_)with
  |false=>
   refine pj func219 ntmps219 results219 ?_;exact aZ;all_goals exact ai.refl _
  |true=>
   refine pj func219 ntmps219 results219 ?_;exact aZ;all_goals exact ai.refl _
def fd {α:Type}(key:α→Int):List α→Bool
 |a::b::l=>decide (key a < key b)&&fd key (b::l)
 |_=>true
theorem eI {α:Type}{key:α→Int}:∀(l:List α),fd key l=true↔∀j (h:j+1 < l.length),key l[j] < key l[j+1]
 |[]=>by simp[fd]
 |[a]=>by simp[fd]
 |a::b::l=>by
  have ih:=eI (key:=key) (b::l);simp only[fd,Xy,decide_eq_true_eq,ih];constructor
  ·rintro⟨h1,h2⟩ j hj;cases j with
   |zero=>exact h1
   |succ j=>exact h2 j (by simpa using hj)
  ·intro h;exact⟨h 0 (by simp),fun j hj=>h (j+1) (by simpa using hj)⟩
theorem fX {α:Type}{key:α→Int}:∀(l:List α),fd key l=true↔l.Pairwise fun a b=>key a < key b
 |[]=>by simp[fd]
 |[a]=>by simp[fd]
 |a::b::l=>by
  have ih:=fX (key:=key) (b::l);simp only[fd,Xy,decide_eq_true_eq,ih];constructor
  ·rintro⟨h1,h2⟩;refine YC.2 ⟨fun x hx=>?_,h2⟩;rcases X7.1 hx with rfl|hx
   ·exact h1
   ·have:=(YC.1 h2).1 x hx;omega
  ·intro h;obtain⟨h1,h2⟩:=YC.1 h;exact⟨h1 b (by simp),h2⟩
theorem BV {α:Type}{enc:α→List D}(eB:∀x,(enc x).length=3)(key:α→Int)(l:List α)(g:Nat)(hl:l.length≤1000000000)(hc:∀x∈l,af prog g [.agg (enc x)] (.v (.int .i64 (key x)))):
 af prog 181 [.sl 3 (l.map enc),.clo g []] (.v (.bool (fd key l))):=by
 refine pj func181 ntmps181 results181 ?_;refine am ?_<;>intros;refine bL ae ak (fun m e h=>∃k:Nat,1≤k∧(∀j (h:j+1 < l.length),j+1 < k→key l[j] < key l[j+1])∧m=l.length - k∧e=[(5,.d (.v (.int .i64 k))),(4,.d (.v (.bool false))),(1,.d (.clo g [])),(0,.d (.sl 3 (l.map enc)))]∧h=[]) _ _ _ ⟨1,XB _,fun j h h1=>by omega,rfl,rfl,rfl⟩ ?_ ?_
 ·exact wf (x:=[]) (hh:=rfl) (he:=⟨rfl,rfl,rfl,rfl,trivial⟩)
 ·rintro m e h ⟨k,pc,bF,hm,rfl,rfl⟩ CL mJ;by_cases hlt:k < l.length
  ·obtain⟨x,hx⟩:∃x,l[k - 1]? =some x:=⟨_,Xk (by omega)⟩;obtain⟨y,hy⟩:∃y,l[k]? =some y:=⟨_,Xk hlt⟩;have en:(k:Int) < (l.length:Int):=by omega
   have cM:=wi k (by omega);have AB:IntKind.i64.wrap ((k:Int) - 1)=((k - 1:Nat):Int):=by rw[IntKind.wrap_i64];omega
   have VU:=eB x;have VV:=eB y;have VW:(enc x).take 3=enc x:=XN (by omega);have SB:(enc y).take 3=enc y:=XN (by omega);have jC:=hc x (Xl hx);have Ux:=hc y (Xl hy);have nE:l[k - 1]'(by omega)=x:=by rw[Xk (by omega)]at hx;exact XX.inj hx
   have wY:l[k]=y:=by rw[Xk hlt]at hy;exact XX.inj hy
   replace nE:=Xj nE;replace wY:=Xj wY;replace hm:=Xj hm;cases hge:decide (key x≥key y)with
   |true=>
    have hr:fd key l=false:=by
     rw[YE,ne_eq,eI];intro h;have:=h (k - 1) (by omega);simp only[show k - 1+1=k by omega,nE.out,wY.out]at this;simp at hge;omega
    exact aZ;all_goals(rw[hr];exact ai.refl _)
   |false=>
    refine am ?_<;>intros;refine mJ _ _ _ _ _ ?_ ⟨k+1,by omega,fun j hj AA=>?_,rfl,rfl,rfl⟩ (wf (x:=[]) (hh:=rfl) (he:=⟨rfl,rfl,rfl,rfl,trivial⟩))
    ·have:=hm.out;omega
    ·rcases XP (j+1) k with h|h
     ·exact bF j hj h
     ·obtain rfl:j=k - 1:=by omega
      simp only[show k - 1+1=k by omega,nE.out,wY.out];simp at hge;omega
  ·have en:decide ((k:Int) < (l.length:Int))=false:=by simp;omega
   have hr:fd key l=true:=(eI l).2 fun j hj=>bF j hj (by omega);replace hm:=Xj hm;exact aZ;all_goals(rw[hr];exact ai.refl _)
theorem Hz {α:Type}{enc:α→List D}(eB:∀x,(enc x).length=4)(key:α→Int)(l:List α)(g:Nat)(hl:l.length≤1000000000)(hc:∀x∈l,af prog g [.agg (enc x)] (.v (.int .i64 (key x)))):
 af prog 183 [.sl 4 (l.map enc),.clo g []] (.v (.bool (fd key l))):=by
 refine pj func183 ntmps183 results183 ?_;refine am ?_<;>intros;refine bL ae ak (fun m e h=>∃k:Nat,1≤k∧(∀j (h:j+1 < l.length),j+1 < k→key l[j] < key l[j+1])∧m=l.length - k∧e=[(5,.d (.v (.int .i64 k))),(4,.d (.v (.bool false))),(1,.d (.clo g [])),(0,.d (.sl 4 (l.map enc)))]∧h=[]) _ _ _ ⟨1,XB _,fun j h h1=>by omega,rfl,rfl,rfl⟩ ?_ ?_
 ·exact wf (x:=[]) (hh:=rfl) (he:=⟨rfl,rfl,rfl,rfl,trivial⟩)
 ·rintro m e h ⟨k,pc,bF,hm,rfl,rfl⟩ CL mJ;by_cases hlt:k < l.length
  ·obtain⟨x,hx⟩:∃x,l[k - 1]? =some x:=⟨_,Xk (by omega)⟩;obtain⟨y,hy⟩:∃y,l[k]? =some y:=⟨_,Xk hlt⟩;have en:(k:Int) < (l.length:Int):=by omega
   have cM:=wi k (by omega);have AB:IntKind.i64.wrap ((k:Int) - 1)=((k - 1:Nat):Int):=by rw[IntKind.wrap_i64];omega
   have VU:=eB x;have VV:=eB y;have VW:(enc x).take 4=enc x:=XN (by omega);have SB:(enc y).take 4=enc y:=XN (by omega);have jC:=hc x (Xl hx);have Ux:=hc y (Xl hy);have nE:l[k - 1]'(by omega)=x:=by rw[Xk (by omega)]at hx;exact XX.inj hx
   have wY:l[k]=y:=by rw[Xk hlt]at hy;exact XX.inj hy
   replace nE:=Xj nE;replace wY:=Xj wY;replace hm:=Xj hm;cases hge:decide (key x≥key y)with
   |true=>
    have hr:fd key l=false:=by
     rw[YE,ne_eq,eI];intro h;have:=h (k - 1) (by omega);simp only[show k - 1+1=k by omega,nE.out,wY.out]at this;simp at hge;omega
    exact aZ;all_goals(rw[hr];exact ai.refl _)
   |false=>
    refine am ?_<;>intros;refine mJ _ _ _ _ _ ?_ ⟨k+1,by omega,fun j hj AA=>?_,rfl,rfl,rfl⟩ (wf (x:=[]) (hh:=rfl) (he:=⟨rfl,rfl,rfl,rfl,trivial⟩))
    ·have:=hm.out;omega
    ·rcases XP (j+1) k with h|h
     ·exact bF j hj h
     ·obtain rfl:j=k - 1:=by omega
      simp only[show k - 1+1=k by omega,nE.out,wY.out];simp at hge;omega
  ·have en:decide ((k:Int) < (l.length:Int))=false:=by simp;omega
   have hr:fd key l=true:=(eI l).2 fun j hj=>bF j hj (by omega);replace hm:=Xj hm;exact aZ;all_goals(rw[hr];exact ai.refl _)
theorem Eh {α:Type}{enc:α→List D}(eB:∀x,(enc x).length=2)(key:α→Int)(l:List α)(g:Nat)(hl:l.length≤1000000000)(hc:∀x∈l,af prog g [.agg (enc x)] (.v (.int .i64 (key x)))):
 af prog 234 [.sl 2 (l.map enc),.clo g []] (.v (.bool (fd key l))):=by
 refine pj func234 ntmps234 results234 ?_;refine am ?_<;>intros;refine bL ae ak (fun m e h=>∃k:Nat,1≤k∧(∀j (h:j+1 < l.length),j+1 < k→key l[j] < key l[j+1])∧m=l.length - k∧e=[(5,.d (.v (.int .i64 k))),(4,.d (.v (.bool false))),(1,.d (.clo g [])),(0,.d (.sl 2 (l.map enc)))]∧h=[]) _ _ _ ⟨1,XB _,fun j h h1=>by omega,rfl,rfl,rfl⟩ ?_ ?_
 ·exact wf (x:=[]) (hh:=rfl) (he:=⟨rfl,rfl,rfl,rfl,trivial⟩)
 ·rintro m e h ⟨k,pc,bF,hm,rfl,rfl⟩ CL mJ;by_cases hlt:k < l.length
  ·obtain⟨x,hx⟩:∃x,l[k - 1]? =some x:=⟨_,Xk (by omega)⟩;obtain⟨y,hy⟩:∃y,l[k]? =some y:=⟨_,Xk hlt⟩;have en:(k:Int) < (l.length:Int):=by omega
   have cM:=wi k (by omega);have AB:IntKind.i64.wrap ((k:Int) - 1)=((k - 1:Nat):Int):=by rw[IntKind.wrap_i64];omega
   have VU:=eB x;have VV:=eB y;have VW:(enc x).take 2=enc x:=XN (by omega);have SB:(enc y).take 2=enc y:=XN (by omega);have jC:=hc x (Xl hx);have Ux:=hc y (Xl hy);have nE:l[k - 1]'(by omega)=x:=by rw[Xk (by omega)]at hx;exact XX.inj hx
   have wY:l[k]=y:=by rw[Xk hlt]at hy;exact XX.inj hy
   replace nE:=Xj nE;replace wY:=Xj wY;replace hm:=Xj hm;cases hge:decide (key x≥key y)with
   |true=>
    have hr:fd key l=false:=by
     rw[YE,ne_eq,eI];intro h;have:=h (k - 1) (by omega);simp only[show k - 1+1=k by omega,nE.out,wY.out]at this;simp at hge;omega
    exact aZ;all_goals(rw[hr];exact ai.refl _)
   |false=>
    refine am ?_<;>intros;refine mJ _ _ _ _ _ ?_ ⟨k+1,by omega,fun j hj AA=>?_,rfl,rfl,rfl⟩ (wf (x:=[]) (hh:=rfl) (he:=⟨rfl,rfl,rfl,rfl,trivial⟩))
    ·have:=hm.out;omega
    ·rcases XP (j+1) k with h|h
     ·exact bF j hj h
     ·obtain rfl:j=k - 1:=by omega
      simp only[show k - 1+1=k by omega,nE.out,wY.out];simp at hge;omega
  ·have en:decide ((k:Int) < (l.length:Int))=false:=by simp;omega
   have hr:fd key l=true:=(eI l).2 fun j hj=>bF j hj (by omega);replace hm:=Xj hm;exact aZ;all_goals(rw[hr];exact ai.refl _)
theorem HA (l:List Int)(g:Nat)(hl:l.length≤1000000000)(hc:∀x,af prog g [.v (.int .i64 x)] (.v (.int .i64 x))):
 af prog 232 [.sl 1 (l.map cD),.clo g []] (.v (.bool (fd (fun x=>x) l))):=by
 refine pj func232 ntmps232 results232 ?_;refine am ?_<;>intros;refine bL ae ak (fun m e h=>∃k:Nat,1≤k∧(∀j (h:j+1 < l.length),j+1 < k→l[j] < l[j+1])∧m=l.length - k∧e=[(5,.d (.v (.int .i64 k))),(4,.d (.v (.bool false))),(1,.d (.clo g [])),(0,.d (.sl 1 (l.map cD)))]∧h=[]) _ _ _ ⟨1,XB _,fun j h h1=>by omega,rfl,rfl,rfl⟩ ?_ ?_
 ·exact wf (x:=[]) (hh:=rfl) (he:=⟨rfl,rfl,rfl,rfl,trivial⟩)
 ·rintro m e h ⟨k,pc,bF,hm,rfl,rfl⟩ CL mJ;by_cases hlt:k < l.length
  ·obtain⟨x,hx⟩:∃x,l[k - 1]? =some x:=⟨_,Xk (by omega)⟩;obtain⟨y,hy⟩:∃y,l[k]? =some y:=⟨_,Xk hlt⟩;have en:(k:Int) < (l.length:Int):=by omega
   have cM:=wi k (by omega);have AB:IntKind.i64.wrap ((k:Int) - 1)=((k - 1:Nat):Int):=by rw[IntKind.wrap_i64];omega
   have jC:=hc x;have Ux:=hc y;have nE:l[k - 1]'(by omega)=x:=by rw[Xk (by omega)]at hx;exact XX.inj hx
   have wY:l[k]=y:=by rw[Xk hlt]at hy;exact XX.inj hy
   replace nE:=Xj nE;replace wY:=Xj wY;replace hm:=Xj hm;cases hge:decide (x≥y)with
   |true=>
    have hr:fd (fun x=>x) l=false:=by
     rw[YE,ne_eq,eI];intro h;have:=h (k - 1) (by omega);simp only[show k - 1+1=k by omega,nE.out,wY.out]at this;simp at hge;omega
    exact aZ;all_goals(rw[hr];exact ai.refl _)
   |false=>
    refine am ?_<;>intros;refine mJ _ _ _ _ _ ?_ ⟨k+1,by omega,fun j hj AA=>?_,rfl,rfl,rfl⟩ (wf (x:=[]) (hh:=rfl) (he:=⟨rfl,rfl,rfl,rfl,trivial⟩))
    ·have:=hm.out;omega
    ·rcases XP (j+1) k with h|h
     ·exact bF j hj h
     ·obtain rfl:j=k - 1:=by omega
      simp only[show k - 1+1=k by omega,nE.out,wY.out];simp at hge;omega
  ·have en:decide ((k:Int) < (l.length:Int))=false:=by simp;omega
   have hr:fd (fun x=>x) l=true:=(eI l).2 fun j hj=>bF j hj (by omega);replace hm:=Xj hm;exact aZ;all_goals(rw[hr];exact ai.refl _)
def gw:List Pfx→List Pfx→Bool
 |_,[]=>true
 |pre,p::l=>!(pre.any p.meets)&&gw (pre++[p]) l
theorem Ka (q p:Pfx):af prog 236 [.agg (aN q),.ept (aN p)] (.v (.bool (p.meets q))):=by
 have hm:af prog 19 [.agg (aN p),.agg (aN q)] (.v (.bool (p.meets q))):=oU p q;refine pj func236 ntmps236 results236 ?_;exact aZ
theorem jJ {α:Type}{l:List α}{k:Nat}{x:α}(h:l[k]? =some x):l.drop k=x::l.drop (k+1):=by
 obtain⟨hk,rfl⟩:=Xn.1 h;exact YQ hk
theorem FQ (l:List Pfx)(hl:l.length≤1000000000):af prog 186 [.sl 2 (l.map aN)] (.v (.bool (gw [] l))):=by
 refine pj func186 ntmps186 results186 ?_;refine am ?_<;>intros;refine bg ae ak l (fun k=>gw [] l=gw (l.take k) (l.drop k)) (fun k=>[(7,.d (.v (.int .i64 k))),(6,.d (.v (.int .i64 l.length))),(5,.d (.sl 2 (l.map aN))),(2,.d (.v (.bool false))),(0,.d (.sl 2 (l.map aN)))]) (fun _=>[]) rfl (wf (x:=[]) (hh:=rfl) (he:=⟨rfl,rfl,rfl,rfl,rfl,trivial⟩)) ?_ ?_
 ·intro k p hp hk hI C hC;have dH:(k:Int) < (l.length:Int):=by omega
  have cM:=wi k (by omega);have nl:=tt BC p.meets (l.take k) 236 [.ept (aN p)] (by rw[Xp];omega) (fun q _=>Ka q p);rw[ZH]at nl;rw[jJ hp]at hI;simp only[gw,←ag hp]at hI;replace hI:=Xj hI;have uw:k≤l.length:=by omega
  cases ha:(l.take k).any p.meets with
  |true=>
   rw[ha]at nl;refine am ?_<;>intros;all_goals(rw[hI.out,ha];exact ai.refl _)
  |false=>
   rw[ha]at nl;refine am ?_<;>intros;exact hC _ _ (by rw[hI.out,ha];rfl) (wf)
 ·intro hI C;rw[Y7]at hI;replace hI:=Xj hI;refine am ?_<;>intros;all_goals(rw[hI.out];exact ai.refl _)
end Go.Proofs.YtmicljipaiohkaaGreat
